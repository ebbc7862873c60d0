/- The allocating operations. -/
import Derived.Test.YtpphdocfglmffaaGreatDoorAbN
import Derived.IntWalk
set_option linter.unusedVariables false
set_option linter.unusedSimpArgs false
namespace Go.Ab
open Go.RowKit (Below)

section
variable {P : Program} {ι : Inj} {w : World} {h : Hp} {e : Env} {ρ : Operand → Value}

/-- what an operation comes to: a value, and a heap -/
def Goes (P : Program) (ι : Inj) (h : Hp) (w : World) (s : Sem Next) (v : V) (k : Hp) : Prop :=
  ∃ nx c u κ, s.run P w = .ok nx u ∧ (nx = .value c ∨ (nx = .skip ∧ c = undef)) ∧ VR κ v c ∧ Rel κ k u ∧ Ext ι h w κ k u

theorem goesV {o : Oper} {s : Sem Value} {v : V} {k : Hp} (ho : execOp ρ o = (do pure (.value (← s)))) (hg : ∃ c u κ, s.run P w = .ok c u ∧ VR κ v c ∧ Rel κ k u ∧ Ext ι h w κ k u) : Goes P ι h w (execOp ρ o) v k := by
  obtain ⟨c, u, κ, h1, h2, h3, h4⟩ := hg
  exact ⟨.value c, c, u, κ, by rw [ho]; simp [h1], .inl rfl, h2, h3, h4⟩

theorem goesU {o : Oper} {s : Sem Unit} {k : Hp} (ho : execOp ρ o = (do s; pure .skip)) (hg : ∃ u κ, s.run P w = .ok () u ∧ Rel κ k u ∧ Ext ι h w κ k u) : Goes P ι h w (execOp ρ o) und k := by
  obtain ⟨u, κ, h1, h3, h4⟩ := hg
  exact ⟨.skip, undef, u, κ, by rw [ho]; simp [h1], .inr ⟨rfl, rfl⟩, und_rel, h3, h4⟩

/-- what an operation comes to: a value, and the object s -/
def GoesL (P : Program) (ι : Inj) (h : Hp) (w : World) (s : Nat) (m : Sem Next) (v : V) (k : Hp) : Prop :=
  ∃ nx c u κ, m.run P w = .ok nx u ∧ (nx = .value c ∨ (nx = .skip ∧ c = undef)) ∧ VR κ v c ∧ Rel κ k u ∧ LExt s ι h w κ k u

theorem goesLV {o : Oper} {z : Nat} {s : Sem Value} {v : V} {k : Hp} (ho : execOp ρ o = (do pure (.value (← s)))) (hg : ∃ c u κ, s.run P w = .ok c u ∧ VR κ v c ∧ Rel κ k u ∧ LExt z ι h w κ k u) : GoesL P ι h w z (execOp ρ o) v k := by
  obtain ⟨c, u, κ, h1, h2, h3, h4⟩ := hg
  exact ⟨.value c, c, u, κ, by rw [ho]; simp [h1], .inl rfl, h2, h3, h4⟩

theorem newRow_lay (hR : Rel ι h w) {s0 : Nat} (hs : Free ι s0) {vs : List V} {cs extra : List Value} (hv : VRs ι vs cs) (el : TypeId) (esz : Option Nat) :
    ∃ κ L, (newRow el (cs ++ extra).toArray).run P w = .ok ⟨w.heap.size, 0, none⟩ (w.alloc (.cells (cs ++ extra).toArray el)) ∧ κ.st s0 0 = some L ∧ L = ⟨w.heap.size, 0, 0, vs.length, (cs ++ extra).length, esz, 0⟩ ∧
      Rel κ (h.lay s0 (.sto vs [] 0 esz)) (w.alloc (.cells (cs ++ extra).toArray el)) ∧ LExt s0 ι h w κ (h.lay s0 (.sto vs [] 0 esz)) (w.alloc (.cells (cs ++ extra).toArray el)) := by
  obtain ⟨r1, r2⟩ := alloc_lay hR hs (extra := extra) hv el esz
  exact ⟨_, _, by simp [newRow], by simp [Inj.addSt], rfl, r1, r2⟩

theorem newRow_rel (hR : Rel ι h w) {vs : List V} {cs extra : List Value} (hv : VRs ι vs cs) (el : TypeId) (esz : Option Nat) :
    ∃ κ L, (newRow el (cs ++ extra).toArray).run P w = .ok ⟨w.heap.size, 0, none⟩ (w.alloc (.cells (cs ++ extra).toArray el)) ∧ κ.st h.nx 0 = some L ∧ L = ⟨w.heap.size, 0, 0, vs.length, (cs ++ extra).length, esz, 0⟩ ∧
      Rel κ (h.new (.sto vs [] 0 esz)) (w.alloc (.cells (cs ++ extra).toArray el)) ∧ Ext ι h w κ (h.new (.sto vs [] 0 esz)) (w.alloc (.cells (cs ++ extra).toArray el)) := by
  obtain ⟨r1, r2⟩ := alloc_rel hR (extra := extra) hv el esz
  exact ⟨_, _, by simp [newRow], by simp [Inj.addSt], rfl, r1, r2⟩

theorem n_alloc {o : Oper} {t : TypeId} {q : N1} {r : Ob × (Nat → V)} (hR : Rel ι h w) {s0 : Nat} (hs0 : Free ι s0) (ho : o.op = .alloc t) (hc : cOp P o.op = some (.n q)) (hv : q.ev e = some r) : GoesL P ι h w s0 (execOp ρ o) (r.2 s0) (h.lay s0 r.1) := by
  rw [ho] at hc; simp only [cOp, Option.map_eq_some_iff] at hc
  obtain ⟨z, hz, hc⟩ := hc
  simp only [A1.n.injEq] at hc; subst hc
  simp only [N1.ev, Option.some.injEq] at hv; subst hv
  obtain ⟨zc, hzr, hzv, _⟩ := run_zeroValue hz
  obtain ⟨κ, L, h1, h2, h3, h4, h5⟩ := newRow_lay (P := P) (extra := []) hR hs0 (hzv ι).cells t none
  refine goesLV (s := Instr.alloc t true (.tuple #[])) (by unfold execOp; rw [ho]) ⟨.pointer (some ⟨w.heap.size, 0, none⟩), _, κ, ?_, ⟨L, h2, by simp [h3], by simp [h3]⟩, h4, h5⟩
  unfold Instr.alloc newVar
  simp only [List.append_nil, Array.toArray_toList] at h1
  simp [hzr, h1]

theorem n_box {o : Oper} {t : TypeId} {x : Operand} {q : N1} {r : Ob × (Nat → V)} (hR : Rel ι h w) {s0 : Nat} (hs0 : Free ι s0) (hρ : ∀ a b, cOpd a = some b → VR ι (b.val e) (ρ a)) (ho : o.op = .box t x) (hc : cOp P o.op = some (.n q)) (hv : q.ev e = some r) : GoesL P ι h w s0 (execOp ρ o) (r.2 s0) (h.lay s0 r.1) := by
  rw [ho] at hc; simp only [cOp, Option.map_eq_some_iff] at hc
  obtain ⟨y, hy, hc⟩ := hc
  simp only [A1.n.injEq] at hc; subst hc
  simp only [N1.ev, Option.some.injEq] at hv; subst hv
  obtain ⟨κ, L, h1, h2, h3, h4, h5⟩ := newRow_lay (P := P) (extra := []) hR hs0 (hρ x y hy).cells t none
  refine goesLV (s := Instr.box t (ρ x)) (by unfold execOp; rw [ho]) ⟨.pointer (some ⟨w.heap.size, 0, none⟩), _, κ, ?_, ⟨L, h2, by simp [h3], by simp [h3]⟩, h4, h5⟩
  unfold Instr.box newVar
  simp only [List.append_nil, Array.toArray_toList] at h1
  simp [h1]

theorem reps_rel {zs : List V} {zc : List Value} (hz : VRs ι zs zc) : ∀ n, VRs ι (reps zs n) ((List.replicate n zc).flatten)
  | 0 => by simp [reps, VRs]
  | n + 1 => by simpa [reps, List.replicate_succ] using hz.append (reps_rel hz n)

theorem rep_flat (z : List Value) (hz : z.length ≠ 0) : ∀ (n : Nat), (List.range (n * z.length)).map (fun i => z[i % z.length]!) = (List.replicate n z).flatten
  | 0 => by simp
  | n + 1 => by
    rw [List.replicate_succ', List.flatten_append, Nat.succ_mul, List.range_add, List.map_append, rep_flat z hz n]
    congr 1
    simp only [List.map_map, List.flatten_cons, List.flatten_nil, List.append_nil]
    apply List.ext_getElem
    · simp
    · intro i h1 h2
      simp only [List.getElem_map, List.getElem_range, Function.comp]
      rw [Nat.add_comm, Nat.add_mul_mod_self_right, Nat.mod_eq_of_lt h2]
      simp [h2]

theorem rep_arr (z : Array Value) (hz : z.size ≠ 0) (n : Nat) : (Array.range (n * z.size)).map (fun i => z[i % z.size]!) = (List.replicate n z.toList).flatten.toArray := by
  have := rep_flat z.toList (by simpa using hz) n
  apply Array.ext'
  simp only [Array.toList_map, Array.toList_range]
  simp only [Array.length_toList] at this
  rw [← this]
  apply List.map_congr_left
  intro i _
  simp [getElem!_def]

theorem n_bslice {o : Oper} {t : TypeId} {n : Nat} {ps : Array (Nat × Operand)} {q : N1} {r : Ob × (Nat → V)} (hR : Rel ι h w) {s0 : Nat} (hs0 : Free ι s0) (hρ : ∀ a b, cOpd a = some b → VR ι (b.val e) (ρ a)) (ho : o.op = .buildSlice t n ps) (hc : cOp P o.op = some (.n q)) (hv : q.ev e = some r) : GoesL P ι h w s0 (execOp ρ o) (r.2 s0) (h.lay s0 r.1) := by
  rw [ho] at hc; simp only [cOp, Option.bind_eq_some_iff] at hc
  obtain ⟨d, hd, hc⟩ := hc
  cases d with
  | slice el =>
    simp only [Option.bind_eq_some_iff] at hc
    obtain ⟨sz, hsz, z, hz, hc⟩ := hc
    split at hc
    case isFalse => simp at hc
    rename_i hlim
    simp only [Option.map_eq_some_iff] at hc
    obtain ⟨parts, hparts, hc⟩ := hc
    simp only [A1.n.injEq] at hc; subst hc
    simp only [N1.ev, Option.map_eq_some_iff] at hv
    obtain ⟨cs, hcs, rfl⟩ := hv
    obtain ⟨zc, hzr, hzv, _⟩ := run_zeroValue hz
    obtain ⟨_, _, _, hsz0⟩ := szOf_info hsz
    have hzl := (hzv ι).cells.length
    have hzs : zc.cells.size = sz := by rw [← Array.length_toList, ← hzl]; exact hlim.2
    have hl : ¬ n * sz > 2 ^ 24 := by omega
    have fin : ∀ ds : Array Value, VRs ι (reps z.cells n) ds.toList → (∀ es, Instr.fill (fun i => some (i * sz, sz)) ds (ps.toList.map fun (x : Nat × Operand) => (x.1, ρ x.2)) = some es →
        (Instr.buildSlice t n (ps.map fun (i, x) => (i, ρ x))).run P w = (do pure (.slice (some (← newRow el es)) n n) : Sem Value).run P w) → GoesL P ι h w s0 (execOp ρ o) ((fun i => V.slc i 0 0 n n sz) s0) (h.lay s0 (.sto cs [] 0 none)) := by
      intro ds hdv hrun
      obtain ⟨es, he, hes⟩ := fill_run hρ ps.toList parts _ cs ds hparts hcs hdv
      obtain ⟨κ, L, h1, h2, h3, h4, h5⟩ := newRow_lay (P := P) (extra := []) hR hs0 hes el none
      simp only [List.append_nil, Array.toArray_toList] at h1
      refine goesLV (s := Instr.buildSlice t n (ps.map fun (i, x) => (i, ρ x))) (by unfold execOp; rw [ho]) ⟨.slice (some ⟨w.heap.size, 0, none⟩) n n, _, κ, ?_, ⟨_, n, rfl, Nat.le_refl _, .inr ⟨L, h2, by simp [h3], by simp [h3], .inl rfl⟩⟩, h4, h5⟩
      rw [hrun es he]
      simp [h1]
    by_cases hn : n * sz = 0
    · have : n = 0 := by rcases Nat.mul_eq_zero.1 hn with h | h; exact h; omega
      subst this
      refine fin #[] (by simp [reps, VRs]) fun es he => ?_
      have h0 : Array.range 0 = #[] := rfl
      unfold Instr.buildSlice
      simp [run_underlying' hd, run_sizeOf hsz, h0, he]
    · refine fin (List.replicate n zc.cells.toList).flatten.toArray (by simpa using reps_rel (hzv ι).cells n) fun es he => ?_
      rw [← rep_arr _ (by omega), hzs] at he
      unfold Instr.buildSlice
      simp only [Sem.run_bind, run_underlying' hd, run_sizeOf hsz, Result.andThen_ok, hl, if_false, hn, hzr, Sem.run_pure, hzs, Array.toList_map, he]
  | _ => simp at hc

theorem allocOb_lay (hR : Rel ι h w) {s0 : Nat} (hs0 : Free ι s0) {o : Ob} {c : Obj} (hor : ObR ι (w.alloc c) w.heap.size o) :
    Rel (ι.addOb s0 w.heap.size) (h.lay s0 o) (w.alloc c) ∧ LExt s0 ι h w (ι.addOb s0 w.heap.size) (h.lay s0 o) (w.alloc c) := by
  have hn : ι.ob s0 = none := hs0.2
  have hle := Inj.le_addOb (ι := ι) (c := w.heap.size) hn
  have hob : ∀ i d, (ι.addOb s0 w.heap.size).ob i = some d → (i = s0 ∧ d = w.heap.size) ∨ (i ≠ s0 ∧ ι.ob i = some d) := by
    intro i d hk
    simp only [Inj.addOb] at hk
    split at hk
    · rename_i hh; simp at hk; exact .inl ⟨hh, hk.symm⟩
    · rename_i hh; exact .inr ⟨hh, hk⟩
  have hnx : h.nx ≤ max h.nx (s0 + 1) := Nat.le_max_left _ _
  have hnx2 : s0 < max h.nx (s0 + 1) := by have := Nat.le_max_right h.nx (s0 + 1); omega
  have hst : ∀ s g K, ι.st s g = some K → s ≠ s0 := by
    rintro s g K hk rfl
    rw [hs0.1] at hk; simp at hk
  constructor
  · constructor
    · intro s g K hk
      obtain ⟨a, b, cc⟩ := hR.st s g K hk
      refine ⟨Nat.lt_of_lt_of_le a hnx, by simp; omega, ?_⟩
      intro cells old dirty es ho
      simp only [Hp.lay, if_neg (hst s g K hk)] at ho
      exact ((cc _ _ _ _ ho).mono hle).congr (heap_alloc_lt _ _ b)
    · exact hR.sep
    · intro i d hi
      rcases hob i d hi with ⟨rfl, rfl⟩ | ⟨hne, hi⟩
      · exact ⟨hnx2, by simp, o, by simp [Hp.lay], hor.mono hle⟩
      · obtain ⟨a, b, o', ho', hor'⟩ := hR.ob i d hi
        exact ⟨Nat.lt_of_lt_of_le a hnx, by simp; omega, o', by simp [Hp.lay, hne, ho'], (hor'.mono hle).congr (heap_alloc_lt _ _ b)⟩
    · intro i d j hi hj
      rcases hob i d hi with ⟨rfl, rfl⟩ | ⟨hlt, hi2⟩ <;> rcases hob j _ hj with ⟨rfl, _⟩ | ⟨hlt', hj2⟩
      · rfl
      · have := (hR.ob _ _ hj2).2.1; omega
      · have := (hR.ob _ _ hi2).2.1; omega
      · exact hR.obsep i d j hi2 hj2
    · intro s g K i d hk hi
      rcases hob i d hi with ⟨rfl, rfl⟩ | ⟨hlt, hi⟩
      · have := (hR.st _ _ _ hk).2.1; omega
      · exact hR.kind _ _ _ _ _ hk hi
    · intro i o' ho
      simp only [Hp.lay] at ho ⊢
      split at ho
      · rename_i hh; rw [hh]; exact hnx2
      · exact Nat.lt_of_lt_of_le (hR.obj i o' ho) hnx
  · refine ⟨hle, rfl, rfl, rfl, Nat.le_refl _, by simp, hnx, ?_, ?_⟩
    · intro b hb hro
      refine ⟨⟨?_, ?_⟩, heap_alloc_lt _ _ hb⟩
      · intro s g K hk hcb cells old dirty es ho
        simp only [Hp.lay, if_neg (hst s g K hk)] at ho
        exact hro.1 s g K hk hcb _ _ _ _ ho
      · intro i d hi
        rcases hob i d hi with ⟨rfl, rfl⟩ | ⟨_, hi⟩
        · omega
        · exact hro.2 i d hi
    · intro i hi
      exact ⟨fun g => rfl, by simp [Inj.addOb, hi], by simp [Hp.lay, hi]⟩

theorem allocOb_rel (hR : Rel ι h w) {o : Ob} {c : Obj} (hor : ObR ι (w.alloc c) w.heap.size o) :
    Rel (ι.addOb h.nx w.heap.size) (h.new o) (w.alloc c) ∧ Ext ι h w (ι.addOb h.nx w.heap.size) (h.new o) (w.alloc c) := by
  obtain ⟨a, b⟩ := allocOb_lay hR hR.free hor
  rw [Hp.lay_new] at a b
  exact ⟨a, b.ext (Nat.le_refl _)⟩

theorem n_mkmap {o : Oper} {t : TypeId} {x : Option Operand} {q : N1} {r : Ob × (Nat → V)} (hR : Rel ι h w) {s0 : Nat} (hs0 : Free ι s0) (hk : ∀ v, ρ (.const v) = v) (ho : o.op = .makeMap t x) (hc : cOp P o.op = some (.n q)) (hv : q.ev e = some r) : GoesL P ι h w s0 (execOp ρ o) (r.2 s0) (h.lay s0 r.1) := by
  rw [ho] at hc; simp only [cOp, Option.bind_eq_some_iff] at hc
  obtain ⟨d, hd, hc⟩ := hc
  have key : q = .mkmap ∧ (Instr.makeMap t (x.map ρ)).run P w = .ok (.map (some w.heap.size)) (w.alloc (.map #[] 0)) := by
    cases d with
    | map kt et =>
      simp only at hc
      split at hc
      · simp at hc; exact ⟨hc.symm, by unfold Instr.makeMap; simp⟩
      · rename_i k n
        simp at hc
        refine ⟨hc.symm, ?_⟩
        unfold Instr.makeMap
        simp [run_underlying' hd, hk, asInt, asIntOf]
      · simp at hc
    | _ => simp at hc
  obtain ⟨rfl, hrun⟩ := key
  simp only [N1.ev, Option.some.injEq] at hv; subst hv
  obtain ⟨r1, r2⟩ := allocOb_lay hR hs0 (o := .map [] 0) (c := .map #[] 0) ⟨#[], heap_alloc_new _ _, rfl⟩
  exact goesLV (s := Instr.makeMap t (x.map ρ)) (by unfold execOp; rw [ho]) ⟨_, _, _, hrun, ⟨w.heap.size, by simp [Inj.addOb], rfl⟩, r1, r2⟩

theorem n_mkslice {o : Oper} {t : TypeId} {x y : Operand} {q : N1} {r : Ob × (Nat → V)} (hR : Rel ι h w) {s0 : Nat} (hs0 : Free ι s0) (hρ : ∀ a b, cOpd a = some b → VR ι (b.val e) (ρ a)) (ho : o.op = .makeSlice t x y) (hc : cOp P o.op = some (.n q)) (hv : q.ev e = some r) : GoesL P ι h w s0 (execOp ρ o) (r.2 s0) (h.lay s0 r.1) := by
  rw [ho] at hc; simp only [cOp, Option.bind_eq_some_iff] at hc
  obtain ⟨d, hd, hc⟩ := hc
  cases d with
  | slice el =>
    simp only [Option.bind_eq_some_iff] at hc
    obtain ⟨sz, hsz, z, hz, inf, hinf, lo, hlo, co, hco, hc⟩ := hc
    split at hc
    case isFalse => simp at hc
    rename_i hzl
    simp only [Option.some.injEq, A1.n.injEq] at hc; subst hc
    simp only [N1.ev, Option.bind_eq_some_iff] at hv
    obtain ⟨l, hl, c, hcc, hv⟩ := hv
    split at hv
    case isFalse => simp at hv
    rename_i hb
    obtain ⟨h0, h1, h2, h3, _⟩ := hb
    simp only [Option.some.injEq] at hv; subst hv
    obtain ⟨zc, hzr, hzv, _⟩ := run_zeroValue hz
    obtain ⟨_, _, _, hsz0⟩ := szOf_info hsz
    have hzs : zc.cells.size = sz := by rw [← Array.length_toList, ← (hzv ι).cells.length]; exact hzl
    obtain ⟨kl, _, rl⟩ := asI_rel (hρ x lo hlo) hl
    obtain ⟨kc, _, rc⟩ := asI_rel (hρ y co hco) hcc
    have w1 : IntKind.i64.wrap l = l := IntWalk.i64_in _ (by omega)
    have w2 : IntKind.i64.wrap c = c := IntWalk.i64_in _ (by omega)
    have hbytes : ¬ 281474976710656 < (inf.bytes : Int) * c := by
      rw [Int.mul_comm]; omega
    have hr0 : Array.range 0 = #[] := rfl
    have fin : ∀ ds : Array Value, VRs ι (reps z.cells c.toNat) ds.toList → ((Instr.makeSlice t (ρ x) (ρ y)).run P w = (do pure (.slice (some (← newRow el ds)) l.toNat c.toNat) : Sem Value).run P w) → GoesL P ι h w s0 (execOp ρ o) ((fun i => V.slc i 0 0 l.toNat c.toNat sz) s0) (h.lay s0 (.sto (reps z.cells c.toNat) [] 0 none)) := by
      intro ds hdv hrun
      obtain ⟨κ, L, g1, g2, g3, g4, g5⟩ := newRow_lay (P := P) (extra := []) hR hs0 hdv el none
      simp only [List.append_nil, Array.toArray_toList] at g1
      refine goesLV (s := Instr.makeSlice t (ρ x) (ρ y)) (by unfold execOp; rw [ho]) ⟨.slice (some ⟨w.heap.size, 0, none⟩) l.toNat c.toNat, _, κ, ?_, ⟨_, c.toNat, rfl, by omega, .inr ⟨L, g2, by simp [g3], by simp [g3], .inl rfl⟩⟩, g4, g5⟩
      rw [hrun]; simp [g1]
    have n1 : ¬ l < 0 := by omega
    have n2 : ¬ c < 0 := by omega
    have n3 : ¬ l > c := by omega
    by_cases hn : c.toNat * sz = 0
    · have hc0 : c.toNat = 0 := by rcases Nat.mul_eq_zero.1 hn with h | h; exact h; omega
      rw [hc0] at fin ⊢
      refine fin #[] (by simp [reps, VRs]) ?_
      unfold Instr.makeSlice
      simp [run_underlying' hd, rl, rc, asInt, asIntOf, run_typeInfo hinf, w1, w2, hbytes, n1, n2, n3, run_sizeOf hsz, hc0, hr0]
    · refine fin (List.replicate c.toNat zc.cells.toList).flatten.toArray (by simpa using reps_rel (hzv ι).cells c.toNat) ?_
      rw [← rep_arr _ (by omega), hzs]
      unfold Instr.makeSlice
      simp [run_underlying' hd, rl, rc, asInt, asIntOf, run_typeInfo hinf, w1, w2, hbytes, n1, n2, n3, run_sizeOf hsz, hn, hzr, hzs]
  | _ => simp at hc

/-- a block's end is marked: a string's bytes stand there -/
theorem freeze_rel {κ : Inj} {k : Hp} {u : World} {s g : Nat} {L : Loc} {cells : List V} {old : List Nat} {dirty : Nat} {esz : Option Nat} (hR : Rel κ k u) (hL : κ.st s g = some L) (ho : k.obj s = some (.sto cells old dirty esz)) (hg : g = old.length) :
    (∃ el, u.shape? L.cb = some (el, L.csz)) ∧ Rel κ k (u.freeze { block := L.cb, off := L.csz } 1) ∧ Ext κ k u κ k (u.freeze { block := L.cb, off := L.csz } 1) := by
  subst hg
  obtain ⟨hs1, hcb, hst⟩ := hR.st _ _ L hL
  obtain ⟨hro0, he, c, el, fr, hc, hcsz, hfit, hd, hcur⟩ := hst _ _ _ _ ho
  have hro : L.ro = 0 := by omega
  have hw : ∀ b, (u.freeze { block := L.cb, off := L.csz } 1).heap[b]? = if b = L.cb then some (.cells c el (if fr.1 == fr.2 then (L.csz, L.csz + 1) else (min fr.1 L.csz, max fr.2 (L.csz + 1)))) else u.heap[b]? := by
    intro b
    simp only [World.freeze, Nat.one_ne_zero, if_false, Array.getElem?_modify]
    by_cases hb : L.cb = b
    · subst hb; simp [hc]
    · rw [if_neg hb, if_neg (fun h => hb h.symm)]
  have hsize : (u.freeze { block := L.cb, off := L.csz } 1).heap.size = u.heap.size := by simp [World.freeze]
  refine ⟨⟨el, by simp [World.shape?, hc, hcsz]⟩, ?_, ?_⟩
  · constructor
    · intro s' g' M hk
      obtain ⟨a, b, cc⟩ := hR.st s' g' M hk
      refine ⟨a, by rw [hsize]; exact b, ?_⟩
      intro cells' old' dirty' esz' ho'
      by_cases hcbk : M.cb = L.cb
      · obtain ⟨rfl, _⟩ := hR.sepw hk hL hcbk hro
        rw [ho] at ho'; simp only [Option.some.injEq, Ob.sto.injEq] at ho'
        obtain ⟨rfl, rfl, rfl, rfl⟩ := ho'
        obtain ⟨k1, k2, d, el', fr', k3, k4, k5, k6, k7⟩ := cc _ _ _ _ ho
        rw [hcbk, hc] at k3
        simp only [Option.some.injEq, Obj.cells.injEq] at k3
        obtain ⟨rfl, rfl, rfl⟩ := k3
        refine ⟨k1, k2, _, _, _, by rw [hw, if_pos hcbk], k4, k5, k6, fun hg => ⟨(k7 hg).1, ?_⟩⟩
        have := (k7 hg).2
        right
        have hcs : M.csz = L.csz := by omega
        split
        · simp; omega
        · rename_i hne
          have : fr.1 ≠ fr.2 := by simpa using hne
          simp; omega
      · exact (cc _ _ _ _ ho').congr (by rw [hw, if_neg hcbk])
    · exact hR.sep
    · intro i d hi
      obtain ⟨a, b, o', ho', hor⟩ := hR.ob i d hi
      have hne : d ≠ L.cb := fun hh => hR.kind _ _ _ _ _ hL hi hh.symm
      exact ⟨a, by rw [hsize]; exact b, o', ho', hor.congr (by rw [hw, if_neg hne])⟩
    · exact hR.obsep
    · exact hR.kind
    · exact hR.obj
  · refine ⟨Inj.le.refl _, by simp [World.freeze], by simp [World.freeze], by simp [World.freeze], by simp [World.freeze], by rw [hsize]; exact Nat.le_refl _, Nat.le_refl _, ?_, fun _ _ a b => ⟨a, b, rfl⟩, fun _ _ _ a b => by simp [a] at b, fun _ _ a b => by simp [a] at b⟩
    intro b hb hro
    refine ⟨hro, ?_⟩
    rw [hw, if_neg]
    rintro rfl
    have := hro.1 _ _ _ hL rfl _ _ _ _ ho
    omega

theorem n_s2b {o : Oper} {src dst : TypeId} {x : Operand} {q : N1} {r : Ob × (Nat → V)} (hR : Rel ι h w) {s0 : Nat} (hs0 : Free ι s0) (hρ : ∀ a b, cOpd a = some b → VR ι (b.val e) (ρ a)) (ho : o.op = .convert src dst x) (hc : cOp P o.op = some (.n q)) (hv : q.ev e = some r) : GoesL P ι h w s0 (execOp ρ o) (r.2 s0) (h.lay s0 r.1) := by
  rw [ho] at hc; simp only [cOp, Option.bind_eq_some_iff] at hc
  obtain ⟨y, hy, a, ha, b, hb, hc⟩ := hc
  have rx := hρ x y hy
  split at hc
  · simp at hc
  · simp at hc
  · split at hc
    · split at hc <;> simp at hc
    · simp at hc
  · split at hc
    · simp at hc
    · simp at hc
  · rename_i el
    split at hc
    case h_2 => simp at hc
    rename_i hel
    rw [if_pos rfl] at hc
    split at hc
    case isFalse => simp at hc
    simp only [Option.some.injEq, A1.n.injEq] at hc; subst hc
    simp only [N1.ev] at hv
    split at hv
    case h_2 => simp at hv
    rename_i s hs
    rw [hs] at rx
    obtain ⟨bs, rb, rfl⟩ := rx
    simp only [Option.some.injEq] at hv; subst hv
    have hv : VRs ι (bs.data.toList.map fun b => V.int .u8 b.toNat) (bs.data.toList.map fun b => Value.int .u8 b.toNat) := by
      refine VRs.mk (by simp) fun i v c hv hc => ?_
      simp only [List.getElem?_map, Option.map_eq_some_iff] at hv hc
      obtain ⟨p, hp, rfl⟩ := hv
      obtain ⟨p', hp', rfl⟩ := hc
      rw [hp] at hp'; simp at hp'; subst hp'; rfl
    have hRd : Rel ι h w.drew := hR.congr rfl
    generalize hcap : (Question.appendCap bs.size 0 el).cut (w.tape w.drawn (.appendCap bs.size 0 el)) = cap
    have hge : bs.size ≤ cap := by rw [← hcap]; simp [Question.cut]
    obtain ⟨κ, L, h1, h2, h3, h4, h5⟩ := newRow_lay (P := P) (extra := List.replicate (cap - bs.size) (.int .u8 0)) hRd hs0 hv el (some 1)
    have hnew : (h.lay s0 (.sto (bs.data.toList.map fun b => V.int .u8 b.toNat) [] 0 (some 1))).obj s0 = some (.sto (bs.data.toList.map fun b => V.int .u8 b.toNat) [] 0 (some 1)) := by simp [Hp.lay]
    obtain ⟨⟨el', f1⟩, f2, f3⟩ := freeze_rel h4 h2 hnew rfl
    have hcsz : L.csz = cap := by
      have : bs.data.size = bs.size := rfl
      rw [h3]; simp; omega
    refine goesLV (s := convert src dst (ρ x)) (by unfold execOp; rw [ho]) ⟨.slice (some ⟨w.heap.size, 0, none⟩) bs.size cap, _, κ, ?_, ?_, f2, (h5.drewL).then f3⟩
    · unfold convert Conv.stringToBytes
      have harr : (bs.data.map fun (b : UInt8) => Value.int .u8 b.toNat) ++ Array.replicate (cap - bs.size) (Value.int .u8 0) = ((bs.data.toList.map fun (b : UInt8) => Value.int .u8 b.toNat) ++ List.replicate (cap - bs.size) (Value.int .u8 0)).toArray := by
        apply Array.ext'; simp
      have hcb : L.cb = w.heap.size := by rw [h3]; rfl
      have h1' := h1
      simp only [World.size_drew] at h1'
      rw [hcb] at f1
      simp [rb, run_underlying' ha, run_underlying' hb, run_underlying' hel, Question.forced, hcap, harr, h1', markStringish, f1, hcb]
    · refine ⟨_, cap, rfl, Nat.le_refl _, .inr ⟨L, h2, by simp [h3], by simp [h3], .inr ⟨?_, by simp [h3], ?_, ?_⟩⟩⟩
      · simp; exact hge
      · simp [h3]
      · have : L.coff = 0 := by rw [h3]
        rw [hcsz]; omega
  · simp at hc

theorem n1_lay {o : Oper} {q : N1} {r : Ob × (Nat → V)} (hR : Rel ι h w) {s0 : Nat} (hs0 : Free ι s0) (hρ : ∀ a b, cOpd a = some b → VR ι (b.val e) (ρ a)) (hk : ∀ v, ρ (.const v) = v) (hc : cOp P o.op = some (.n q)) (hv : q.ev e = some r) : GoesL P ι h w s0 (execOp ρ o) (r.2 s0) (h.lay s0 r.1) := by
  cases ho : o.op with
  | alloc t => exact n_alloc hR hs0 ho hc hv
  | box t x => exact n_box hR hs0 hρ ho hc hv
  | buildSlice t n ps => exact n_bslice hR hs0 hρ ho hc hv
  | makeMap t r => exact n_mkmap hR hs0 hk ho hc hv
  | makeSlice t l c => exact n_mkslice hR hs0 hρ ho hc hv
  | convert a b x => exact n_s2b hR hs0 hρ ho hc hv
  | move x => rw [ho] at hc; simp [cOp] at hc
  | assign x => rw [ho] at hc; simp [cOp] at hc
  | pick c a b => rw [ho] at hc; simp [cOp, Option.bind_eq_some_iff] at hc
  | build t ps =>
    rw [ho] at hc; simp only [cOp, Option.bind_eq_some_iff] at hc
    obtain ⟨d, _, _, _, hc⟩ := hc
    cases d <;> simp [Option.bind_eq_some_iff] at hc
  | load t a => rw [ho] at hc; simp [cOp, Option.bind_eq_some_iff] at hc
  | store t a x => rw [ho] at hc; simp [cOp, Option.bind_eq_some_iff] at hc
  | nilCheck x => rw [ho] at hc; simp [cOp] at hc
  | binOp bop t x y u =>
    rw [ho] at hc; simp only [cOp, Option.bind_eq_some_iff] at hc
    obtain ⟨_, _, _, _, hc⟩ := hc
    split at hc
    · split at hc <;> simp at hc
    · split at hc <;> simp at hc
    · simp at hc
  | unOp uop t x => rw [ho] at hc; simp [cOp] at hc
  | sliceToArrayPointer arr x =>
    rw [ho] at hc; simp only [cOp, Option.bind_eq_some_iff] at hc
    obtain ⟨_, _, d, _, hc⟩ := hc
    cases d <;> simp at hc
  | makeInterface t x =>
    rw [ho] at hc; simp only [cOp, Option.bind_eq_some_iff] at hc
    obtain ⟨_, _, d, _, hc⟩ := hc
    cases d <;> simp at hc
  | makeFunc f a b =>
    rw [ho] at hc; simp only [cOp] at hc
    split at hc <;> simp [Option.bind_eq_some_iff] at hc
  | slice t x lo hi mx =>
    rw [ho] at hc; simp only [cOp, Option.bind_eq_some_iff] at hc
    obtain ⟨_, _, _, _, _, _, _, _, d, _, hc⟩ := hc
    cases d <;> simp [Option.bind_eq_some_iff] at hc
    obtain ⟨d, _, hc⟩ := hc
    cases d <;> simp at hc
  | fieldAddr s x f =>
    rw [ho] at hc; simp only [cOp, Option.bind_eq_some_iff] at hc
    obtain ⟨_, _, d, _, hc⟩ := hc
    cases d <;> simp at hc
  | field t x f =>
    rw [ho] at hc; simp only [cOp, Option.bind_eq_some_iff] at hc
    obtain ⟨_, _, d, _, hc⟩ := hc
    cases d <;> simp [Option.bind_eq_some_iff] at hc
  | indexAddr t x i =>
    rw [ho] at hc; simp only [cOp, Option.bind_eq_some_iff] at hc
    obtain ⟨_, _, _, _, d, _, hc⟩ := hc
    cases d <;> simp at hc
  | index t x i =>
    rw [ho] at hc; simp only [cOp, Option.bind_eq_some_iff] at hc
    obtain ⟨_, _, _, _, d, _, hc⟩ := hc
    cases d <;> simp [Option.bind_eq_some_iff] at hc
  | lookup t m k ok =>
    rw [ho] at hc; simp only [cOp, Option.bind_eq_some_iff] at hc
    obtain ⟨_, _, _, _, d, _, hc⟩ := hc
    cases d <;> simp [Option.bind_eq_some_iff] at hc
  | mapUpdate t m k x =>
    rw [ho] at hc; simp only [cOp, Option.bind_eq_some_iff] at hc
    obtain ⟨_, _, _, _, _, _, d, _, hc⟩ := hc
    cases d <;> simp at hc
  | insert t m k x =>
    rw [ho] at hc; simp only [cOp, Option.bind_eq_some_iff] at hc
    obtain ⟨_, _, _, _, _, _, d, _, hc⟩ := hc
    cases d <;> simp at hc
  | range t x =>
    rw [ho] at hc; simp only [cOp, Option.bind_eq_some_iff] at hc
    obtain ⟨_, _, d, _, hc⟩ := hc
    cases d <;> simp at hc
  | next it s => rw [ho] at hc; cases s <;> simp [cOp] at hc
  | entry it => rw [ho] at hc; simp [cOp] at hc
  | typeAssert x xt t ok =>
    rw [ho] at hc
    cases ok
    · simp only [cOp, Option.bind_eq_some_iff] at hc
      obtain ⟨_, _, d, _, hc⟩ := hc
      cases d <;> simp at hc
    · simp [cOp] at hc
  | extract t i => rw [ho] at hc; simp [cOp] at hc
  | call c =>
    rw [ho] at hc
    obtain ⟨callee, args, ts⟩ := c
    simp only [cOp] at hc
    split at hc
    · rename_i b
      cases b <;> simp only [cBuiltin, cLen, cAppend, cCopy, cDelete, cMinmax, reduceCtorEq] at hc
      all_goals (split at hc)
      all_goals (simp only [Option.bind_eq_some_iff, Option.map_eq_some_iff, reduceCtorEq] at hc)
      · obtain ⟨_, _, _, _, _, _, _, _, _, _, _, _, hc⟩ := hc
        split at hc
        · split at hc
          · simp at hc
          · simp only [Option.bind_eq_some_iff] at hc
            obtain ⟨_, _, _, _, _, _, hc⟩ := hc
            split at hc <;> simp at hc
        · simp at hc
      · obtain ⟨_, _, _, _, _, _, _, _, hc⟩ := hc
        split at hc <;> simp at hc
      · obtain ⟨_, _, _, _, _, _, _, _, hc⟩ := hc
        split at hc <;> simp at hc
      · obtain ⟨_, _, _, _, _, _, hc⟩ := hc
        split at hc <;> simp at hc
      · obtain ⟨_, _, _, _, hc⟩ := hc
        simp at hc
      · obtain ⟨_, _, _, _, hc⟩ := hc
        simp at hc
    · simp only [Option.bind_eq_some_iff] at hc
      obtain ⟨fn, hfn, hc⟩ := hc
      split at hc
      · simp at hc
      split at hc
      · simp at hc
      split at hc
      case isFalse => simp at hc
      unfold cExtern at hc
      split at hc
      · simp only [Option.bind_eq_some_iff] at hc
        obtain ⟨_, _, _, _, hc⟩ := hc
        repeat' (split at hc)
        all_goals simp at hc
      · simp only [Option.bind_eq_some_iff] at hc
        obtain ⟨_, _, hc⟩ := hc
        split at hc <;> simp at hc
      · simp at hc
    · simp only [Option.bind_eq_some_iff, Option.map_eq_some_iff] at hc
      obtain ⟨_, _, _, _, hc⟩ := hc
      simp at hc
    · simp at hc
  | _ => rw [ho] at hc; simp [cOp] at hc

theorem n1_sound {o : Oper} {q : N1} {r : Ob × (Nat → V)} (hR : Rel ι h w) (hρ : ∀ a b, cOpd a = some b → VR ι (b.val e) (ρ a)) (hk : ∀ v, ρ (.const v) = v) (hc : cOp P o.op = some (.n q)) (hv : q.ev e = some r) : Goes P ι h w (execOp ρ o) (r.2 h.nx) (h.new r.1) := by
  obtain ⟨nx, c, u, κ, a1, a2, a3, a4, a5⟩ := n1_lay hR hR.free hρ hk hc hv
  rw [Hp.lay_new] at a4 a5
  exact ⟨nx, c, u, κ, a1, a2, a3, a4, a5.ext (Nat.le_refl _)⟩

end
end Go.Ab
