/- The pure operations, all in one law. -/
import Derived.Test.YtpphdocfglmffaaGreatDoorAbI
set_option linter.unusedVariables false
set_option linter.unusedSimpArgs false
namespace Go.Ab

section
variable {P : Program} {ι : Inj} {w : World} {e : Env} {ρ : Operand → Value}

theorem vals_rel (hρ : ∀ a b, cOpd a = some b → VR ι (b.val e) (ρ a)) : ∀ (as : List Operand) (bs : List Opd), allO cOpd as = some bs → VRs ι (bs.map (Opd.val e)) (as.map ρ)
  | [], bs, h => by simp [allO] at h; subst h; rfl
  | a :: as, bs, h => by
    simp only [allO, Option.bind_eq_some_iff, Option.map_eq_some_iff] at h
    obtain ⟨b, hb, bs, hbs, rfl⟩ := h
    exact ⟨ρ a, as.map ρ, rfl, hρ a b hb, vals_rel hρ as bs hbs⟩

theorem minmax_run (mx : Bool) {x y z : V} {a b : Value} (hx : VR ι x a) (hy : VR ι y b) (h : minmax mx x y = some z) :
    ∃ c, VR ι z c ∧ (if mx then Builtin.max2 a b else Builtin.min2 a b) = (pure c : Sem Value) := by
  unfold minmax at h
  split at h
  · simp only [VR] at hx hy; subst hx; subst hy
    split at h
    · simp at h; subst h
      refine ⟨_, rfl, ?_⟩
      cases mx
      · rfl
      · simp only [if_true, Builtin.max2]
    · simp at h
  · simp at h

theorem minmaxs_run (mx : Bool) : ∀ (ys : List V) (bs : List Value) (x z : V) (a : Value), VR ι x a → VRs ι ys bs → minmaxs mx x ys = some z →
    ∃ c, VR ι z c ∧ (if mx then bs.foldlM Builtin.max2 a else bs.foldlM Builtin.min2 a).run P w = .ok c w
  | [], bs, x, z, a, hx, hy, h => by
    simp [VRs] at hy; subst hy
    simp [minmaxs] at h; subst h
    exact ⟨a, hx, by cases mx <;> simp⟩
  | y :: ys, _, x, z, a, hx, ⟨b, bs, rfl, hy, hys⟩, h => by
    simp only [minmaxs, Option.bind_eq_some_iff] at h
    obtain ⟨u, hu, h⟩ := h
    obtain ⟨c, hc, he⟩ := minmax_run mx hx hy hu
    obtain ⟨d, hd, hrun⟩ := minmaxs_run mx ys bs u z c hc hys h
    refine ⟨d, hd, ?_⟩
    cases mx
    · simp only [Bool.false_eq_true, if_false] at he hrun ⊢
      simp only [List.foldlM_cons, he]
      simpa using hrun
    · simp only [if_true] at he hrun ⊢
      simp only [List.foldlM_cons, he]
      simpa using hrun

theorem field_run {s : TypeId} {fs : Array Field} {i : Nat} {p : Nat × Nat} {g o st : Nat} {a : Value} (ht : P.underlying s = some (.struct fs)) (hf : fieldAt P fs i = some p) (hx : VR ι (.ptr st g o) a) :
    Pays P ι w (Instr.fieldAt s a i) (.ptr st g (o + p.1)) := by
  obtain ⟨L, hL, hb, rfl⟩ := hx
  simp only [fieldAt, Option.bind_eq_some_iff, Option.map_eq_some_iff] at hf
  obtain ⟨f, hf, n, hn, rfl⟩ := hf
  obtain ⟨_, _, _, hn0⟩ := szOf_info hn
  refine ⟨.pointer (some ⟨L.cb, L.coff + (o - L.base) + f.offset, none⟩), ?_, L, hL, by simp; omega, by simp; omega⟩
  unfold Instr.fieldAt fieldPlace
  simp [run_underlying' ht, hf, Instr.sureAddr, run_sizeOf hn, hn0, add_eq]

theorem idx_run {k : IntKind} {i : Int} {n sz : Nat} {g o s : Nat} {L : Loc} (hL : ι.st s g = some L) (hb : L.base ≤ o) (h0 : 0 ≤ i) (h1 : i < (n : Int)) (t el : TypeId) (hz : szOf P el = some sz)
    (x : Value) (ht : (P.underlying t = some (.array n el) ∧ x = .pointer (some ⟨L.cb, L.coff + (o - L.base), none⟩)) ∨ (P.underlying t = some (.slice el) ∧ ∃ c, x = .slice (some ⟨L.cb, L.coff + (o - L.base), none⟩) n c)) :
    Pays P ι w (Instr.indexAt t x (.int k i)) (.ptr s g (o + i.toNat * sz)) := by
  refine ⟨.pointer (some ⟨L.cb, L.coff + (o - L.base) + i.toNat * sz, none⟩), ?_, L, hL, by omega, by simp; omega⟩
  rcases ht with ⟨ht, rfl⟩ | ⟨ht, c, rfl⟩
  · unfold Instr.indexAt
    simp [asIntOf, run_underlying' ht, Instr.sureAddr, h0, h1, run_sizeOf hz, add_eq]
  · unfold Instr.indexAt
    simp [asIntOf, run_underlying' ht, h0, h1, run_sizeOf hz, add_eq]

theorem execP {o : Oper} {s : Sem Value} {v : V} (h : execOp ρ o = (do pure (.value (← s)))) (k : Pays P ι w s v) : ∃ c, (execOp ρ o).run P w = .ok (.value c) w ∧ VR ι v c := by
  obtain ⟨c, hc, hv⟩ := k
  exact ⟨c, by rw [h]; simp [hc], hv⟩

theorem execV {o : Oper} {c : Value} {v : V} (h : execOp ρ o = pure (.value c)) (k : VR ι v c) : ∃ c, (execOp ρ o).run P w = .ok (.value c) w ∧ VR ι v c :=
  ⟨c, by rw [h]; rfl, k⟩

theorem p_bin {o : Oper} {bop : BinOp} {t u : TypeId} {x y : Operand} {q : P1} {v : V} (hρ : ∀ a b, cOpd a = some b → VR ι (b.val e) (ρ a)) (ho : o.op = .binOp bop t x y u) (hc : cOp P o.op = some (.p q)) (hv : q.ev e = some v) :
    ∃ c, (execOp ρ o).run P w = .ok (.value c) w ∧ VR ι v c := by
  have hx : execOp ρ o = (do pure (.value (← (do eqGuard bop t x y (ρ x) (ρ y); binOp bop t (ρ x) (ρ y) : Sem Value)))) := by unfold execOp; rw [ho]
  refine execP hx ?_
  rw [ho] at hc
  simp only [cOp, Option.bind_eq_some_iff] at hc
  obtain ⟨x', hx', y', hy', hc⟩ := hc
  have rx := hρ x x' hx'
  have ry := hρ y y' hy'
  have plain : ∀ q, q = P1.bin bop x' y' → q.ev e = some v → Pays P ι w (do eqGuard bop t x y (ρ x) (ρ y); binOp bop t (ρ x) (ρ y) : Sem Value) v := by
    rintro q rfl hv
    obtain ⟨h1, c, h2, h3⟩ := bin_run (P := P) (w := w) (t := t) rx ry hv x y
    exact ⟨c, by simp [h1, h2], h3⟩
  have other : ∀ neg, (bop = if neg then .neq else .eql) → (match eqKind P t with
      | some none => some (A1.p (.bin bop x' y'))
      | some (some q) => some (A1.p (.eqk neg q x' y'))
      | none => (eqParts P t).map fun ks => A1.p (.eqAgg neg ks x' y')) = some (.p q) → Pays P ι w (do eqGuard bop t x y (ρ x) (ρ y); binOp bop t (ρ x) (ρ y) : Sem Value) v := by
    intro neg hb h
    split at h
    · simp at h; exact plain q h.symm hv
    · rename_i k hk
      simp at h; subst h
      simp only [P1.ev, Option.map_eq_some_iff] at hv
      obtain ⟨r, hr, rfl⟩ := hv
      have := eqk_run (P := P) (w := w) hk rx ry hr bop (by cases neg <;> simp at hb <;> simp [hb]) x y
      refine ⟨.bool (if bop = .neq then !r else r), by simp only [Sem.run_bind, this.1, Result.andThen_ok, this.2], ?_⟩
      cases neg <;> simp at hb <;> simp [hb, VR]
    · simp only [Option.map_eq_some_iff] at h
      obtain ⟨ks, hks, h⟩ := h
      simp at h; subst h
      simp only [P1.ev] at hv
      split at hv
      · rename_i xs ys hxs hys
        simp only [Option.map_eq_some_iff] at hv
        obtain ⟨r, hr, rfl⟩ := hv
        rw [hxs] at rx; rw [hys] at ry
        have := eqAgg_run (P := P) (w := w) hks rx ry hr bop (by cases neg <;> simp at hb <;> simp [hb]) x y
        refine ⟨.bool (if bop = .neq then !r else r), by simp only [Sem.run_bind, this.1, Result.andThen_ok, this.2], ?_⟩
        cases neg <;> simp at hb <;> simp [hb, VR]
      · simp at hv
  cases bop
  case eql => exact other false rfl hc
  case neq => exact other true rfl hc
  all_goals (simp at hc; exact plain q hc.symm hv)

theorem run_mapM_list {α β : Type} (f : α → Sem β) (g : α → β) : ∀ (l : List α), (∀ x ∈ l, (f x).run P w = .ok (g x) w) → (l.mapM f).run P w = .ok (l.map g) w
  | [], _ => by simp
  | a :: l, h => by
    have h1 := h a (by simp)
    have h2 := run_mapM_list f g l fun x hx => h x (by simp [hx])
    simp [h1, h2]

theorem run_mapM {α β : Type} (f : α → Sem β) (g : α → β) (l : Array α) (h : ∀ x ∈ l, (f x).run P w = .ok (g x) w) : (l.mapM f).run P w = .ok (l.map g) w := by
  have h1 := run_mapM_list (P := P) (w := w) f g l.toList fun x hx => h x (by simpa using hx)
  rw [Array.mapM_eq_mapM_toList]
  simp [h1]
  rw [← Array.toList_map, Array.toArray_toList]

theorem partsOf_mono {pl pl' : Nat → Option (Nat × Nat)} (h : ∀ i p, pl i = some p → pl' i = some p) : ∀ {parts : List (Nat × Operand)} {ps : List (Nat × Nat × Opd)}, partsOf pl parts = some ps → partsOf pl' parts = some ps
  | [], ps, k => by simpa [partsOf, allO] using k
  | x :: r, ps, k => by
    simp only [partsOf, allO, Option.bind_eq_some_iff, Option.map_eq_some_iff] at k ⊢
    obtain ⟨p, ⟨q, hq, o, ho, rfl⟩, rest, hr, rfl⟩ := k
    exact ⟨_, ⟨q, h _ _ hq, o, ho, rfl⟩, rest, partsOf_mono h hr, rfl⟩

theorem p_build {o : Oper} {t : TypeId} {parts : Array (Nat × Operand)} {q : P1} {v : V} (hρ : ∀ a b, cOpd a = some b → VR ι (b.val e) (ρ a)) (ho : o.op = .build t parts) (hc : cOp P o.op = some (.p q)) (hv : q.ev e = some v) :
    ∃ c, (execOp ρ o).run P w = .ok (.value c) w ∧ VR ι v c := by
  rw [ho] at hc
  simp only [cOp, Option.bind_eq_some_iff] at hc
  obtain ⟨d, hd, z, hz, hc⟩ := hc
  obtain ⟨zc, hzr, hzv, _⟩ := run_zeroValue hz
  have hzc := (hzv ι).cells
  have hx : execOp ρ o = (do pure (.value (← Instr.build t (parts.map fun (i, x) => (i, ρ x))))) := by unfold execOp; rw [ho]
  refine execP hx ?_
  cases d with
  | struct fs =>
    simp only at hc
    split at hc
    case isFalse => simp at hc
    rename_i hall
    simp only [Option.map_eq_some_iff] at hc
    obtain ⟨ps, hps, hc⟩ := hc
    simp at hc; subst hc
    simp only [P1.ev, Option.map_eq_some_iff] at hv
    obtain ⟨cs, hcs, rfl⟩ := hv
    have hpl : (fs.mapM fun f => (do pure (f.offset, ← sizeOf f.type) : Sem (Nat × Nat))).run P w = .ok (fs.map fun f => (f.offset, ((P.info? f.type).map (·.size)).getD 0)) w := by
      refine run_mapM _ _ fs fun f hf => ?_
      have := List.all_eq_true.1 hall f (by simpa using hf)
      obtain ⟨i, hi⟩ := Option.isSome_iff_exists.1 this
      simp [sizeOf, run_typeInfo hi, hi]
    have hplace : ∀ i p, fieldAt P fs i = some p → (fs.map fun f => (f.offset, ((P.info? f.type).map (·.size)).getD 0))[i]? = some p := by
      intro i p hp
      simp only [fieldAt, Option.bind_eq_some_iff, Option.map_eq_some_iff] at hp
      obtain ⟨f, hf, n, hn, rfl⟩ := hp
      obtain ⟨inf, hi, hs, _⟩ := szOf_info hn
      simp [hf, hi, hs]
    obtain ⟨es, he, hes⟩ := fill_run hρ parts.toList ps _ cs zc.cells (partsOf_mono hplace hps) hcs hzc
    refine ⟨.agg es, ?_, es, rfl, hes⟩
    unfold Instr.build
    simp only [Sem.run_bind, hzr, Result.andThen_ok, run_underlying' hd, hpl, Array.toList_map, he, Sem.run_pure]
  | array n el =>
    simp only [Option.bind_eq_some_iff, Option.map_eq_some_iff] at hc
    obtain ⟨n', hn', ps, hps, hc⟩ := hc
    simp at hc; subst hc
    simp only [P1.ev, Option.map_eq_some_iff] at hv
    obtain ⟨cs, hcs, rfl⟩ := hv
    obtain ⟨es, he, hes⟩ := fill_run hρ parts.toList ps _ cs zc.cells hps hcs hzc
    refine ⟨.agg es, ?_, es, rfl, hes⟩
    unfold Instr.build
    simp only [Sem.run_bind, hzr, Result.andThen_ok, run_underlying' hd, run_sizeOf hn', Array.toList_map, he, Sem.run_pure]
  | _ => simp at hc

theorem p_conv {o : Oper} {src dst : TypeId} {x : Operand} {q : P1} {v : V} (hρ : ∀ a b, cOpd a = some b → VR ι (b.val e) (ρ a)) (ho : o.op = .convert src dst x) (hc : cOp P o.op = some (.p q)) (hv : q.ev e = some v) :
    ∃ c, (execOp ρ o).run P w = .ok (.value c) w ∧ VR ι v c := by
  rw [ho] at hc
  simp only [cOp, Option.bind_eq_some_iff] at hc
  obtain ⟨y, hy, a, ha, b, hb, hc⟩ := hc
  have rx := hρ x y hy
  refine execP (s := convert src dst (ρ x)) (by unfold execOp; rw [ho]) ?_
  split at hc
  · simp at hc; subst hc
    simp only [P1.ev, Option.map_eq_some_iff] at hv
    obtain ⟨n, hn, rfl⟩ := hv
    obtain ⟨k', _, hk'⟩ := asI_rel rx hn
    refine ⟨_, ?_, rfl⟩
    unfold convert
    simp only [Sem.run_bind, run_underlying' ha, run_underlying' hb, Result.andThen_ok, hk', Conv.intToInt, Sem.run_pure]
  · simp at hc; subst hc
    simp only [P1.ev] at hv
    split at hv
    · rename_i s hs
      rw [hs] at rx
      obtain ⟨c, hc, rfl⟩ := rx
      simp only [Option.map_eq_some_iff] at hv
      obtain ⟨r, hr, rfl⟩ := hv
      simp [bnds, bnd] at hr
      subst hr
      refine ⟨.string c, ?_, c, rfl, by simp only [List.drop_zero, Nat.sub_zero]; exact (List.take_of_length_le (Nat.le_refl _)).symm⟩
      unfold convert
      simp only [Sem.run_bind, run_underlying' ha, run_underlying' hb, Result.andThen_ok, hc, Sem.run_pure]
    · simp at hv
  all_goals (try (split at hc <;> simp at hc))
  all_goals (try (split at hc <;> simp at hc))
  all_goals (try simp at hc)

theorem p_slice {o : Oper} {t : TypeId} {x : Operand} {lo hi mx : Option Operand} {q : P1} {v : V} (hρ : ∀ a b, cOpd a = some b → VR ι (b.val e) (ρ a)) (ho : o.op = .slice t x lo hi mx) (hc : cOp P o.op = some (.p q)) (hv : q.ev e = some v) :
    ∃ c, (execOp ρ o).run P w = .ok (.value c) w ∧ VR ι v c := by
  rw [ho] at hc
  simp only [cOp, Option.bind_eq_some_iff] at hc
  obtain ⟨y, hy, l, hl, h, hh, m, hm, d, hd, hc⟩ := hc
  have rx := hρ x y hy
  refine execP (s := Instr.sliceAt t (ρ x) (lo.map ρ) (hi.map ρ) (mx.map ρ)) (by unfold execOp; rw [ho]) ?_
  cases d with
  | string =>
    simp only at hc
    split at hc
    case isFalse => simp at hc
    rename_i hmn
    have : mx = none := by
      cases mx with
      | none => rfl
      | some z => simp [optO] at hm; obtain ⟨_, _, rfl⟩ := hm; simp at hmn
    subst this
    simp at hc; subst hc
    simp only [P1.ev] at hv
    split at hv
    · rename_i s hs
      rw [hs] at rx
      simp only [Option.map_eq_some_iff] at hv
      obtain ⟨r, hr, rfl⟩ := hv
      exact slcStr_run hρ hd rx hl hh hr
    · simp at hv
  | slice el =>
    simp only [Option.map_eq_some_iff] at hc
    obtain ⟨n, hn, hc⟩ := hc
    simp at hc; subst hc
    simp only [P1.ev] at hv
    split at hv
    · rename_i hs
      rw [hs] at rx
      simp only [Option.map_eq_some_iff] at hv
      obtain ⟨r, hr, rfl⟩ := hv
      exact slcN_run hρ hd hn rx hl hh hm hr
    · rename_i s g o' n' c z hs
      rw [hs] at rx
      split at hv
      · rename_i hz
        subst hz
        simp only [Option.map_eq_some_iff] at hv
        obtain ⟨r, hr, rfl⟩ := hv
        exact slcS_run hρ hd hn rx hl hh hm hr
      · simp at hv
    · simp at hv
  | array n el =>
    simp only [Option.map_eq_some_iff] at hc
    obtain ⟨z, hz, hc⟩ := hc
    simp at hc; subst hc
    simp only [P1.ev] at hv
    split at hv
    · rename_i s g o' hs
      rw [hs] at rx
      simp only [Option.map_eq_some_iff] at hv
      obtain ⟨r, hr, rfl⟩ := hv
      exact slcA_run hρ (.inl hd) hz rx hl hh hm hr
    · simp at hv
  | pointer u =>
    simp only [Option.bind_eq_some_iff] at hc
    obtain ⟨d', hd', hc⟩ := hc
    cases d' with
    | array n el =>
      simp only [Option.map_eq_some_iff] at hc
      obtain ⟨z, hz, hc⟩ := hc
      simp at hc; subst hc
      simp only [P1.ev] at hv
      split at hv
      · rename_i s g o' hs
        rw [hs] at rx
        simp only [Option.map_eq_some_iff] at hv
        obtain ⟨r, hr, rfl⟩ := hv
        exact slcA_run hρ (.inr ⟨u, hd, hd'⟩) hz rx hl hh hm hr
      · simp at hv
    | _ => simp at hc
  | _ => simp at hc

theorem call_b {o : Oper} {b : Builtin} {args : Array Operand} {ts : Array TypeId} (ho : o.op = .call { callee := .builtin b, args, argTypes := ts }) :
    ∃ cs, (execOp ρ o).run P w = (builtin b ts o.type cs (args.map ρ)).run P w := by
  unfold execOp; rw [ho]
  exact ⟨_, by simp only [resolve, invoke, Sem.run_bind, Sem.run_pure, Result.andThen_ok]; rfl⟩

theorem one_arg {α : Type} {a : Array α} {x : α} (h : a.toList = [x]) : a = #[x] := by cases a; simp_all
theorem two_args {α : Type} {a : Array α} {x y : α} (h : a.toList = [x, y]) : a = #[x, y] := by cases a; simp_all

theorem p_len {o : Oper} {args : Array Operand} {ts : Array TypeId} {q : P1} {v : V} (hρ : ∀ a b, cOpd a = some b → VR ι (b.val e) (ρ a)) (ho : o.op = .call { callee := .builtin .len, args, argTypes := ts }) (hc : cLen P args.toList ts = some (.p q)) (hv : q.ev e = some v) :
    ∃ c, (execOp ρ o).run P w = .ok (.value c) w ∧ VR ι v c := by
  obtain ⟨ks, hks⟩ := call_b (P := P) (w := w) (ρ := ρ) ho
  rw [hks]
  unfold cLen at hc
  split at hc
  case h_2 => simp at hc
  rename_i x hx
  have := one_arg hx; subst this
  simp only [Option.bind_eq_some_iff] at hc
  obtain ⟨y, hy, t, ht, d, hd, hc⟩ := hc
  have rx := hρ x y hy
  have go : ∀ c, (Builtin.len_ ts o.type #[ρ x]).run P w = .ok c w → VR ι v c → ∃ c, (builtin .len ts o.type ks (#[x].map ρ)).run P w = .ok (.value c) w ∧ VR ι v c := by
    intro c h1 h2
    exact ⟨c, by simp [builtin, h1], h2⟩
  cases d <;> simp only [Option.some.injEq, reduceCtorEq, A1.p.injEq] at hc <;> try (exact absurd hc (by simp))
  case string =>
    subst hc
    simp only [P1.ev, if_true] at hv
    split at hv
    case h_2 => simp at hv
    rename_i s h2
    simp only [Option.some.injEq] at hv
    subst hv
    rw [h2] at rx
    obtain ⟨c, rc, rfl⟩ := rx
    refine go (goInt c.size) ?_ ?_
    · unfold Builtin.len_; simp [ht, run_underlying' hd, rc]
    · simp [VR, goInt]
  case slice el =>
    subst hc
    simp only [P1.ev, Bool.false_eq_true, if_false] at hv
    split at hv
    case h_3 => simp at hv
    all_goals simp only [Option.some.injEq] at hv
    · subst hv
      rename_i h2
      rw [h2] at rx
      simp only [VR] at rx
      refine go (goInt 0) ?_ (by simp [VR, goInt])
      unfold Builtin.len_; simp [ht, run_underlying' hd, rx]
    · subst hv
      rename_i n _ _ h2
      rw [h2] at rx
      obtain ⟨A, cap', rc, _⟩ := rx
      refine go (goInt n) ?_ (by simp [VR, goInt])
      unfold Builtin.len_; simp [ht, run_underlying' hd, rc]
  case array n el =>
    subst hc
    simp only [P1.ev, Opd.val, Option.some.injEq] at hv
    subst hv
    refine go (goInt n) ?_ (by simp [VR, goInt])
    unfold Builtin.len_; simp [ht, run_underlying' hd]

theorem p_mm {o : Oper} {mx : Bool} {args : Array Operand} {ts : Array TypeId} {q : P1} {v : V} (hρ : ∀ a b, cOpd a = some b → VR ι (b.val e) (ρ a)) (ho : o.op = .call { callee := .builtin (if mx then .max else .min), args, argTypes := ts }) (hc : cMinmax mx args.toList = some (.p q)) (hv : q.ev e = some v) :
    ∃ c, (execOp ρ o).run P w = .ok (.value c) w ∧ VR ι v c := by
  obtain ⟨ks, hks⟩ := call_b (P := P) (w := w) (ρ := ρ) ho
  rw [hks]
  unfold cMinmax at hc
  split at hc
  case h_2 => simp at hc
  rename_i x r hx
  simp only [Option.bind_eq_some_iff, Option.map_eq_some_iff] at hc
  obtain ⟨y, hy, bs, hbs, hc⟩ := hc
  simp only [A1.p.injEq] at hc
  subst hc
  simp only [P1.ev] at hv
  obtain ⟨c, hc, hrun⟩ := minmaxs_run (P := P) (w := w) mx _ _ _ _ _ (hρ x y hy) (vals_rel hρ r bs hbs) hv
  refine ⟨c, ?_, hc⟩
  have ha : (args.map ρ).toList = ρ x :: r.map ρ := by simp [hx]
  cases mx
  · simp only [Bool.false_eq_true, if_false, builtin, Builtin.min_, ha] at hrun ⊢
    simp [hrun]
  · simp only [if_true, builtin, Builtin.max_, ha] at hrun ⊢
    simp [hrun]

theorem p_call {o : Oper} {c : Call} {q : P1} {v : V} (hρ : ∀ a b, cOpd a = some b → VR ι (b.val e) (ρ a)) (ho : o.op = .call c) (hc : cOp P o.op = some (.p q)) (hv : q.ev e = some v) :
    ∃ c, (execOp ρ o).run P w = .ok (.value c) w ∧ VR ι v c := by
  rw [ho] at hc
  obtain ⟨callee, args, ts⟩ := c
  simp only [cOp] at hc
  split at hc
  · rename_i b
    cases b with
    | len => exact p_len hρ ho hc hv
    | min => exact p_mm (mx := false) hρ ho hc hv
    | max => exact p_mm (mx := true) hρ ho hc hv
    | append =>
      simp only [cBuiltin, cAppend] at hc
      split at hc
      · simp only [Option.bind_eq_some_iff] at hc
        obtain ⟨_, _, _, _, _, _, _, _, _, _, _, _, hc⟩ := hc
        split at hc
        · split at hc
          · simp at hc
          · simp only [Option.bind_eq_some_iff] at hc
            obtain ⟨_, _, _, _, _, _, hc⟩ := hc
            split at hc <;> simp at hc
        · simp at hc
      · simp at hc
    | copy =>
      simp only [cBuiltin, cCopy] at hc
      split at hc
      · simp only [Option.bind_eq_some_iff] at hc
        obtain ⟨_, _, _, _, _, _, _, _, hc⟩ := hc
        split at hc <;> simp at hc
      · simp at hc
    | delete =>
      simp only [cBuiltin, cDelete] at hc
      split at hc
      · simp only [Option.bind_eq_some_iff] at hc
        obtain ⟨_, _, _, _, _, _, _, _, hc⟩ := hc
        split at hc <;> simp at hc
      · simp at hc
    | _ => simp [cBuiltin] at hc
  · simp only [Option.bind_eq_some_iff] at hc
    obtain ⟨fn, _, hc⟩ := hc
    split at hc
    · simp at hc
    split at hc
    · simp at hc
    · split at hc
      case isFalse => simp at hc
      unfold cExtern at hc
      split at hc
      · simp only [Option.bind_eq_some_iff] at hc
        obtain ⟨_, _, _, _, hc⟩ := hc
        repeat' (split at hc)
        all_goals simp at hc
      · simp only [Option.bind_eq_some_iff] at hc
        obtain ⟨_, _, hc⟩ := hc
        split at hc <;> simp at hc
      · simp at hc
  · simp only [Option.bind_eq_some_iff, Option.map_eq_some_iff] at hc
    obtain ⟨_, _, _, _, hc⟩ := hc
    simp at hc
  · simp at hc

theorem p_index {o : Oper} {t : TypeId} {x i : Operand} {q : P1} {v : V} (hρ : ∀ a b, cOpd a = some b → VR ι (b.val e) (ρ a)) (ho : o.op = .index t x i) (hc : cOp P o.op = some (.p q)) (hv : q.ev e = some v) :
    ∃ c, (execOp ρ o).run P w = .ok (.value c) w ∧ VR ι v c := by
  rw [ho] at hc
  simp only [cOp, Option.bind_eq_some_iff] at hc
  obtain ⟨y, hy, j, hj, d, hd, hc⟩ := hc
  have rx := hρ x y hy
  have ri := hρ i j hj
  refine execP (s := Instr.index t (ρ x) (ρ i)) (by unfold execOp; rw [ho]) ?_
  cases d with
  | string =>
    simp at hc; subst hc
    simp only [P1.ev] at hv
    split at hv
    · rename_i s hs
      rw [hs] at rx
      obtain ⟨b, rc, rfl⟩ := rx
      simp only [Option.bind_eq_some_iff] at hv
      obtain ⟨n, hn, hv⟩ := hv
      obtain ⟨k, _, rk⟩ := asI_rel ri hn
      obtain ⟨u, h0, hu, rfl⟩ := byteAt_run hv
      refine ⟨_, ?_, rfl⟩
      unfold Instr.index
      simp [rk, rc, asIntOf, run_underlying' hd, h0, hu]
    · simp at hv
  | array n el =>
    simp only [Option.bind_eq_some_iff] at hc
    obtain ⟨sh, hsh, z, hz, hc⟩ := hc
    split at hc
    case isFalse => simp at hc
    rename_i hzz
    simp at hc; subst hc
    simp only [P1.ev] at hv
    split at hv
    · rename_i cs hs
      rw [hs] at rx
      obtain ⟨ds, rc, rds⟩ := rx
      simp only [Option.bind_eq_some_iff] at hv
      obtain ⟨m, hm, hv⟩ := hv
      obtain ⟨k, _, rk⟩ := asI_rel ri hm
      split at hv
      · rename_i hb
        obtain ⟨c, hc, hvc⟩ := part_run (P := P) (w := w) hsh rds hv
        refine ⟨c, ?_, hvc⟩
        unfold Instr.index
        rw [hzz] at hc
        simp [rk, rc, asIntOf, run_underlying' hd, hb, run_sizeOf hz, hc]
      · simp at hv
    · simp at hv
  | _ => simp at hc

theorem p_indexAddr {o : Oper} {t : TypeId} {x i : Operand} {q : P1} {v : V} (hρ : ∀ a b, cOpd a = some b → VR ι (b.val e) (ρ a)) (ho : o.op = .indexAddr t x i) (hc : cOp P o.op = some (.p q)) (hv : q.ev e = some v) :
    ∃ c, (execOp ρ o).run P w = .ok (.value c) w ∧ VR ι v c := by
  rw [ho] at hc
  simp only [cOp, Option.bind_eq_some_iff] at hc
  obtain ⟨y, hy, j, hj, d, hd, hc⟩ := hc
  have rx := hρ x y hy
  have ri := hρ i j hj
  refine execP (s := Instr.indexAt t (ρ x) (ρ i)) (by unfold execOp; rw [ho]) ?_
  cases d with
  | array n el =>
    simp only [Option.map_eq_some_iff] at hc
    obtain ⟨z, hz, hc⟩ := hc
    simp at hc; subst hc
    simp only [P1.ev] at hv
    split at hv
    · rename_i s g o' hs
      rw [hs] at rx
      simp only [Option.bind_eq_some_iff] at hv
      obtain ⟨m, hm, hv⟩ := hv
      obtain ⟨k, _, rk⟩ := asI_rel ri hm
      split at hv
      · rename_i hb
        simp at hv; subst hv
        obtain ⟨L, hL, hbase, rc⟩ := rx
        rw [rk]
        exact idx_run hL hbase hb.1 hb.2 t el hz _ (.inl ⟨hd, rc⟩)
      · simp at hv
    · simp at hv
  | slice el =>
    simp only [Option.map_eq_some_iff] at hc
    obtain ⟨z, hz, hc⟩ := hc
    simp at hc; subst hc
    simp only [P1.ev] at hv
    split at hv
    · rename_i s g o' n c z' hs
      rw [hs] at rx
      simp only [Option.bind_eq_some_iff] at hv
      obtain ⟨m, hm, hv⟩ := hv
      obtain ⟨k, _, rk⟩ := asI_rel ri hm
      split at hv
      · rename_i hb
        simp at hv; subst hv
        obtain ⟨A, cap', rc, hn, hor⟩ := rx
        rw [rk]
        rcases hor with ⟨h1, h2⟩ | ⟨L, hL, hbase, rfl, _⟩
        · omega
        · exact idx_run hL hbase hb.1 hb.2 t el hz _ (.inr ⟨hd, cap', rc⟩)
      · simp at hv
    · simp at hv
  | _ => simp at hc

theorem p1_sound {o : Oper} {q : P1} {v : V} (hρ : ∀ a b, cOpd a = some b → VR ι (b.val e) (ρ a)) (hc : cOp P o.op = some (.p q)) (hv : q.ev e = some v) :
    ∃ c, (execOp ρ o).run P w = .ok (.value c) w ∧ VR ι v c := by
  cases ho : o.op with
  | binOp bop t x y u => exact p_bin hρ ho hc hv
  | build t parts => exact p_build hρ ho hc hv
  | convert a b x => exact p_conv hρ ho hc hv
  | slice t x lo hi mx => exact p_slice hρ ho hc hv
  | call c => exact p_call hρ ho hc hv
  | index t x i => exact p_index hρ ho hc hv
  | indexAddr t x i => exact p_indexAddr hρ ho hc hv
  | move x =>
    rw [ho] at hc; simp [cOp] at hc; obtain ⟨y, hy, rfl⟩ := hc
    simp [P1.ev] at hv; subst hv
    exact execV (by unfold execOp; rw [ho]) (hρ x y hy)
  | assign x =>
    rw [ho] at hc; simp [cOp] at hc; obtain ⟨y, hy, rfl⟩ := hc
    simp [P1.ev] at hv; subst hv
    exact execV (by unfold execOp; rw [ho]) (hρ x y hy)
  | pick c a b =>
    rw [ho] at hc; simp [cOp, Option.bind_eq_some_iff] at hc
    obtain ⟨c', hc', a', ha', b', hb', rfl⟩ := hc
    have rc := hρ c c' hc'
    simp only [P1.ev] at hv
    split at hv
    · rename_i t ht
      rw [ht] at rc
      simp only [VR] at rc
      simp only [Option.some.injEq] at hv
      refine ⟨if t then ρ a else ρ b, by unfold execOp; rw [ho]; simp [rc, asBool], ?_⟩
      subst hv
      cases t
      · exact hρ b b' hb'
      · exact hρ a a' ha'
    · simp at hv
  | unOp uop t x =>
    rw [ho] at hc; simp [cOp] at hc; obtain ⟨y, hy, rfl⟩ := hc
    exact execP (s := Op.unary uop (ρ x)) (by unfold execOp; rw [ho]) (un_run (hρ x y hy) hv)
  | nilCheck x =>
    rw [ho] at hc; simp [cOp] at hc; obtain ⟨y, hy, rfl⟩ := hc
    have rx := hρ x y hy
    simp only [P1.ev] at hv
    split at hv
    · rename_i h
      simp at hv; subst hv
      rw [h] at rx
      have rx' := rx
      obtain ⟨L, hL, hb, rc⟩ := rx
      exact ⟨_, by unfold execOp; rw [ho]; simp [rc], rc ▸ rx'⟩
    · rename_i h
      simp at hv; subst hv
      rw [h] at rx
      have rx' := rx
      obtain ⟨as, bs, rc, _⟩ := rx
      exact ⟨_, by unfold execOp; rw [ho]; simp [rc], rc ▸ rx'⟩
    · simp at hv
  | sliceToArrayPointer arr x =>
    rw [ho] at hc; simp only [cOp, Option.bind_eq_some_iff] at hc
    obtain ⟨y, hy, d, hd, hc⟩ := hc
    have rx := hρ x y hy
    cases d with
    | array n el =>
      simp at hc; subst hc
      simp only [P1.ev] at hv
      split at hv
      · rename_i s g o' n' c z h
        rw [h] at rx
        split at hv
        · rename_i hn
          simp at hv; subst hv
          obtain ⟨A, cap', rc, hnc, hor⟩ := rx
          refine execP (s := Instr.arrayAt arr (ρ x)) (by unfold execOp; rw [ho]) ?_
          rcases hor with ⟨h1, h2⟩ | ⟨L, hL, hbase, rfl, _⟩
          · omega
          · refine ⟨.pointer (some ⟨L.cb, L.coff + (o' - L.base), none⟩), ?_, L, hL, hbase, rfl⟩
            unfold Instr.arrayAt
            simp only [Sem.run_bind, run_underlying' hd, Result.andThen_ok, rc]
            rw [if_neg (by omega)]
            rfl
        · simp at hv
      · simp at hv
    | _ => simp at hc
  | makeInterface t x =>
    rw [ho] at hc; simp only [cOp, Option.bind_eq_some_iff] at hc
    obtain ⟨y, hy, d, hd, hc⟩ := hc
    have rx := hρ x y hy
    have hq : q = .mkI t y := by split at hc <;> simp at hc; exact hc.symm
    subst hq
    simp only [P1.ev, Option.some.injEq] at hv; subst hv
    refine execP (s := Instr.makeInterface t (ρ x)) (by unfold execOp; rw [ho]) ⟨.iface t (ρ x), ?_, ρ x, rfl, rx⟩
    unfold Instr.makeInterface
    simp only [Sem.run_bind, run_underlying' hd, Result.andThen_ok]
    split
    · simp at hc
    · rfl
  | makeFunc f a b =>
    rw [ho] at hc; simp only [cOp] at hc
    split at hc
    · simp only [Option.bind_eq_some_iff, Option.map_eq_some_iff] at hc
      obtain ⟨as, has, bs, hbs, hc⟩ := hc
      simp at hc; subst hc
      simp only [P1.ev, Option.some.injEq] at hv; subst hv
      refine execP (s := Instr.makeFunc _ (a.map ρ) (b.map ρ)) (by unfold execOp; rw [ho]) ⟨_, rfl, a.map ρ, b.map ρ, rfl, ?_, ?_⟩
      · simpa using vals_rel hρ a.toList as has
      · simpa using vals_rel hρ b.toList bs hbs
    · simp at hc
  | fieldAddr s x f =>
    rw [ho] at hc; simp only [cOp, Option.bind_eq_some_iff] at hc
    obtain ⟨y, hy, d, hd, hc⟩ := hc
    have rx := hρ x y hy
    cases d with
    | struct fs =>
      simp only [Option.map_eq_some_iff] at hc
      obtain ⟨p, hp, hc⟩ := hc
      simp at hc; subst hc
      simp only [P1.ev] at hv
      split at hv
      · rename_i h
        simp at hv; subst hv
        rw [h] at rx
        exact execP (s := Instr.fieldAt s (ρ x) f) (by unfold execOp; rw [ho]) (field_run hd hp rx)
      · simp at hv
    | _ => simp at hc
  | field t x f =>
    rw [ho] at hc; simp only [cOp, Option.bind_eq_some_iff] at hc
    obtain ⟨y, hy, d, hd, hc⟩ := hc
    have rx := hρ x y hy
    cases d with
    | struct fs =>
      simp only [Option.bind_eq_some_iff, Option.map_eq_some_iff] at hc
      obtain ⟨fd, hfd, sh, hsh, hc⟩ := hc
      simp at hc; subst hc
      simp only [P1.ev] at hv
      split at hv
      · rename_i cs h
        rw [h] at rx
        obtain ⟨ds, rc, rds⟩ := rx
        obtain ⟨c, hc, hvc⟩ := part_run (P := P) (w := w) hsh rds hv
        refine execP (s := Instr.field t (ρ x) f) (by unfold execOp; rw [ho]) ⟨c, ?_, hvc⟩
        unfold Instr.field
        simp [run_underlying' hd, hfd, rc, asAgg, hc]
      · simp at hv
    | _ => simp at hc
  | typeAssert x xt t ok =>
    rw [ho] at hc
    cases ok with
    | true => simp [cOp] at hc
    | false =>
      simp only [cOp, Option.bind_eq_some_iff] at hc
      obtain ⟨y, hy, d, hd, hc⟩ := hc
      have rx := hρ x y hy
      have hq : q = .tass t y := by split at hc <;> simp at hc; exact hc.symm
      subst hq
      simp only [P1.ev] at hv
      split at hv
      · rename_i u v' h
        split at hv
        · rename_i hut
          simp at hv; subst hv
          rw [h] at rx
          obtain ⟨c, rc, rv⟩ := rx
          refine execP (s := Instr.typeAssert (ρ x) xt t false) (by unfold execOp; rw [ho]) ⟨c, ?_, rv⟩
          unfold Instr.typeAssert
          simp only [Sem.run_bind, run_underlying' hd, Result.andThen_ok, rc]
          cases d <;> simp [hut] at hc ⊢
        · simp at hv
      · simp at hv
  | extract t i =>
    rw [ho] at hc; simp [cOp] at hc; obtain ⟨y, hy, rfl⟩ := hc
    have rx := hρ t y hy
    simp only [P1.ev] at hv
    split at hv
    · rename_i vs h
      rw [h] at rx
      obtain ⟨ds, rc, rds⟩ := rx
      obtain ⟨c, hc, hvc⟩ := rds.get hv
      refine execP (s := Instr.extract (ρ t) i) (by unfold execOp; rw [ho]) ⟨c, ?_, hvc⟩
      have : ds[i]? = some c := by simpa using hc
      simp [Instr.extract, rc, this]
    · simp at hv
  | lookup t m k ok =>
    rw [ho] at hc; simp only [cOp, Option.bind_eq_some_iff] at hc
    obtain ⟨_, _, _, _, d, _, hc⟩ := hc
    cases d <;> simp [Option.bind_eq_some_iff] at hc
  | alloc t => rw [ho] at hc; simp [cOp] at hc
  | box t x => rw [ho] at hc; simp [cOp] at hc
  | buildSlice t n ps =>
    rw [ho] at hc; simp only [cOp, Option.bind_eq_some_iff] at hc
    obtain ⟨d, _, hc⟩ := hc
    cases d <;> simp [Option.bind_eq_some_iff] at hc
  | load t a => rw [ho] at hc; simp [cOp, Option.bind_eq_some_iff] at hc
  | store t a x => rw [ho] at hc; simp [cOp, Option.bind_eq_some_iff] at hc
  | makeMap t r =>
    rw [ho] at hc; simp only [cOp, Option.bind_eq_some_iff] at hc
    obtain ⟨d, _, hc⟩ := hc
    cases d <;> simp at hc
    split at hc <;> simp at hc
  | makeSlice t l c =>
    rw [ho] at hc; simp only [cOp, Option.bind_eq_some_iff] at hc
    obtain ⟨d, _, hc⟩ := hc
    cases d <;> simp [Option.bind_eq_some_iff] at hc
  | mapUpdate t m k x =>
    rw [ho] at hc; simp only [cOp, Option.bind_eq_some_iff] at hc
    obtain ⟨_, _, _, _, _, _, d, _, hc⟩ := hc
    cases d <;> simp at hc
  | insert t m k x =>
    rw [ho] at hc; simp only [cOp, Option.bind_eq_some_iff] at hc
    obtain ⟨_, _, _, _, _, _, d, _, hc⟩ := hc
    cases d <;> simp at hc
  | range t x =>
    rw [ho] at hc; simp only [cOp, Option.bind_eq_some_iff] at hc
    obtain ⟨_, _, d, _, hc⟩ := hc
    cases d <;> simp at hc
  | next it s => rw [ho] at hc; cases s <;> simp [cOp] at hc
  | entry it => rw [ho] at hc; simp [cOp] at hc
  | _ => rw [ho] at hc; simp [cOp] at hc

end
end Go.Ab
