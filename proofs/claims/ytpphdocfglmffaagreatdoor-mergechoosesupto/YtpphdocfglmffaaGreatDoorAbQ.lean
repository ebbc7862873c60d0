/- append and copy. -/
import Derived.Test.YtpphdocfglmffaaGreatDoorAbP
set_option linter.unusedVariables false
set_option linter.unusedSimpArgs false
namespace Go.Ab
open Go.RowKit (Below)

section
variable {P : Program} {ι : Inj} {w : World} {h : Hp} {e : Env} {ρ : Operand → Value}

theorem growBy_le (newLen : Nat) : ∀ (r c : Nat), c ≤ newLen + (newLen + 768) / 4 → Builtin.growBy newLen r c ≤ newLen + (newLen + 768) / 4
  | 0, c, h => h
  | r + 1, c, h => by
    simp only [Builtin.growBy]
    split
    · exact h
    · exact growBy_le newLen r _ (by omega)

theorem next_le {need cap : Nat} (h : cap < need) : Builtin.nextslicecap need cap ≤ 2 * need + 192 := by
  unfold Builtin.nextslicecap
  split
  · omega
  split
  · omega
  · have := growBy_le need 4 cap (by omega)
    omega

/-- what an append of n elements whose cells are cs comes to -/
theorem append_in {ts : Array TypeId} {t u el ty : TypeId} {du : TypeDesc} {sz n len cap : Nat} {X : Value} {cs : List Value} {base : Option Addr} (h0 : ts[0]? = some t) (h1 : ts[1]? = some u) (ht : P.underlying t = some (.slice el)) (hu : P.underlying u = some du)
    (hd : ∀ k, du ≠ .int k) (hsz : szOf P el = some sz) (hl : (Builtin.lenOf X).run P w = .ok n w) (hf : (Builtin.firstCells sz n X).run P w = .ok cs.toArray w) (hle : len + n ≤ cap) :
    (Builtin.append_ ts ty #[.slice base len cap, X]).run P w = ((match base with | some a => storeCells (a.add (len * sz)) cs | none => pure () : Sem Unit).run P w).andThen fun _ w' => .ok (.slice base (len + n) cap) w' := by
  unfold Builtin.append_
  simp only [h0, h1, List.getElem?_toArray, List.getElem?_cons_zero, List.getElem?_cons_succ, Sem.run_bind, run_underlying' ht, run_underlying' hu, Result.andThen_ok, run_sizeOf hsz, Sem.run_pure]
  rw [if_neg Bool.false_ne_true]
  simp only [Sem.run_bind, hl, Result.andThen_ok]
  rw [if_pos hle]
  simp only [Bool.not_false, if_true, Sem.run_bind, hf, Result.andThen_ok]
  cases base <;> simp

theorem append_out {ts : Array TypeId} {t u el ty : TypeId} {du : TypeDesc} {inf : TypeInfo} {z : Value} {sz n len cap : Nat} {X : Value} {cs os : List Value} {base : Option Addr} (h0 : ts[0]? = some t) (h1 : ts[1]? = some u) (ht : P.underlying t = some (.slice el)) (hu : P.underlying u = some du)
    (hd : ∀ k, du ≠ .int k) (hsz : szOf P el = some sz) (hinf : P.info? el = some inf) (hz : inf.zero = some z) (hb : 0 < inf.bytes) (hl : (Builtin.lenOf X).run P w = .ok n w) (hf : (Builtin.firstCells sz n X).run P w.drew = .ok cs.toArray w.drew)
    (ho : (Builtin.firstCells sz len (.slice base len cap)).run P w.drew = .ok os.toArray w.drew) (hgt : cap < len + n) (hbytes : (len + n) * inf.bytes ≤ 1099511627776) :
    ∃ cap' extra, len + n ≤ cap' ∧ extra.length = (cap' - (len + n)) * z.cells.size ∧ (Builtin.append_ ts ty #[.slice base len cap, X]).run P w = ((newRow el (os ++ cs ++ extra).toArray).run P w.drew).andThen fun a w' => .ok (.slice (some a) (len + n) cap') w' := by
  have h48 : ¬ Builtin.nextslicecap (len + n) cap * inf.bytes > 2 ^ 48 := by
    have h1 := next_le hgt
    have h2 : Builtin.nextslicecap (len + n) cap * inf.bytes ≤ (2 * (len + n) + 192) * inf.bytes := Nat.mul_le_mul_right _ h1
    have h3 : (2 * (len + n) + 192) * inf.bytes = 2 * ((len + n) * inf.bytes) + 192 * inf.bytes := by rw [Nat.add_mul, Nat.mul_assoc]
    have h4 : inf.bytes ≤ (len + n) * inf.bytes := Nat.le_mul_of_pos_left _ (by omega)
    omega
  have hb0 : ¬ inf.bytes = 0 := by omega
  have hnle : ¬ len + n ≤ cap := by omega
  generalize hcap : (Question.appendCap (len + n) cap el).cut (w.tape w.drawn (.appendCap (len + n) cap el)) = cap'
  have hge : len + n ≤ cap' := by rw [← hcap]; simp [Question.cut]
  refine ⟨cap', (Builtin.zeroCells z.cells (cap' - (len + n))).toList, hge, by simp [Builtin.zeroCells], ?_⟩
  have harr : os.toArray ++ cs.toArray ++ Builtin.zeroCells z.cells (cap' - (len + n)) = (os ++ cs ++ (Builtin.zeroCells z.cells (cap' - (len + n))).toList).toArray := by
    apply Array.ext'; simp
  have hzv : ∀ w, (zeroValue el).run P w = .ok z w := fun w => by unfold zeroValue; simp [run_typeInfo hinf, hz]
  have hgt' : ¬ (((len + n : Nat) : Int) > IntKind.i64.max ∧ (false = true ∨ inf.bytes = 0)) := by
    rintro ⟨_, h⟩
    rcases h with h | h
    · simp at h
    · exact hb0 h
  unfold Builtin.append_
  simp only [h0, h1, List.getElem?_toArray, List.getElem?_cons_zero, List.getElem?_cons_succ, Sem.run_bind, run_underlying' ht, run_underlying' hu, Result.andThen_ok, run_sizeOf hsz, Sem.run_pure]
  rw [if_neg Bool.false_ne_true]
  simp only [Sem.run_bind, hl, Result.andThen_ok]
  rw [if_neg hnle]
  simp only [Sem.run_bind, run_typeInfo hinf, Result.andThen_ok]
  rw [if_neg hgt']
  simp only [Sem.run_bind, run_typeInfo hinf, Result.andThen_ok]
  rw [if_neg h48]
  simp only [Sem.run_bind, run_choose, Question.forced, Bool.false_eq_true, if_false, hcap, World.drew_eq, Result.andThen_ok, run_typeInfo hinf, run_askRoom, ho, Bool.not_false, if_true, hf, hzv, harr]
  simp

/-- what the translation of an append has looked at -/
theorem cAppend_some {args : List Operand} {ts : Array TypeId} {q : E1} (hc : cAppend P args ts = some (.e q)) :
    ∃ s x s' x' t u el du inf z sz, args = [s, x] ∧ cOpd s = some s' ∧ cOpd x = some x' ∧ ts[0]? = some t ∧ ts[1]? = some u ∧ P.underlying t = some (.slice el) ∧ P.underlying u = some du ∧ (∀ k, du ≠ .int k) ∧ szOf P el = some sz ∧
      P.info? el = some inf ∧ inf.zero = some z ∧ z.cells.size = sz ∧ 0 < inf.bytes ∧ q = .append sz inf.bytes s' x' := by
  unfold cAppend at hc
  split at hc
  case h_2 => simp at hc
  rename_i s x
  simp only [Option.bind_eq_some_iff] at hc
  obtain ⟨s', hs, x', hx, t, ht, u, hu, d, hd, du, hdu, hc⟩ := hc
  split at hc
  case h_2 => simp at hc
  rename_i el
  split at hc
  · simp at hc
  rename_i hni
  simp only [Option.bind_eq_some_iff] at hc
  obtain ⟨sz, hsz, inf, hinf, z, hz, hc⟩ := hc
  split at hc
  case isFalse => simp at hc
  rename_i hb
  simp only [Option.some.injEq, A1.e.injEq] at hc
  exact ⟨s, x, s', x', t, u, el, du, inf, z, sz, rfl, hs, hx, ht, hu, hd, hdu, fun k hk => hni k hk, hsz, hinf, hz, hb.1, hb.2, hc.symm⟩

theorem drew_cell (a : Addr) : w.drew.cell? a = w.cell? a := rfl

/-- the parts of an append's law: where a fresh block is made -/
theorem append_new {us vs : List V} {os cs extra : List Value} {n sz cap' : Nat} {el : TypeId} (hR : Rel ι h w) (hus : VRs ι us os) (hvs : VRs ι vs cs) (hlen : us.length + vs.length = n * sz) (hge : n ≤ cap') (hex : extra.length = (cap' - n) * sz) :
    ∃ u κ, ((newRow el (os ++ cs ++ extra).toArray).run P w.drew).andThen (fun a w' => .ok (Value.slice (some a) n cap') w') = .ok (Value.slice (some ⟨w.heap.size, 0, none⟩) n cap') u ∧ VR κ (.slc h.nx 0 0 n n sz) (.slice (some ⟨w.heap.size, 0, none⟩) n cap') ∧
      Rel κ (h.new (.sto (us ++ vs) [] 0 (some sz))) u ∧ Ext ι h w κ (h.new (.sto (us ++ vs) [] 0 (some sz))) u := by
  have hRd : Rel ι h w.drew := hR.congr rfl
  obtain ⟨κ, L, h1, h2, h3, h4, h5⟩ := newRow_rel (P := P) (extra := extra) hRd (hus.append hvs) el (some sz)
  refine ⟨_, κ, by rw [h1]; rfl, ⟨_, cap', rfl, Nat.le_refl _, .inr ⟨L, h2, by simp [h3], by simp [h3], .inr ⟨hge, by simp [h3], by simp [h3, hlen], ?_⟩⟩⟩, h4, (Ext.drew ι h w).trans h5⟩
  have e1 := hus.length
  have e2 := hvs.length
  have : n * sz + (cap' - n) * sz = cap' * sz := by rw [← Nat.add_mul]; congr 1; omega
  rw [h3]
  simp only [List.length_append, hex, Nat.zero_add]
  omega

theorem e_append {o : Oper} {args : Array Operand} {ts : Array TypeId} {q : E1} {Q : V → Hp → Prop} (hR : Rel ι h w) (hρ : ∀ a b, cOpd a = some b → VR ι (b.val e) (ρ a)) (ho : o.op = .call { callee := .builtin .append, args, argTypes := ts }) (hc : cAppend P args.toList ts = some (.e q)) (hv : (q.ev e).wp h Q) : GoesQ P ι h w (execOp ρ o) Q := by
  obtain ⟨s, x, s', x', t, u, el, du, inf, z, sz, hargs, hs, hx, ht0, hu0, ht, hu, hdu, hsz, hinf, hz, hzsz, hb, rfl⟩ := cAppend_some hc
  have := two_args hargs; subst this
  obtain ⟨ks, hks⟩ := call_b (P := P) (w := w) (ρ := ρ) ho
  have rs := hρ s s' hs
  have rx := hρ x x' hx
  have go : ∀ v k, Q v k → (∃ c u κ, (Builtin.append_ ts o.type #[ρ s, ρ x]).run P w = .ok c u ∧ VR κ v c ∧ Rel κ k u ∧ Ext ι h w κ k u) → GoesQ P ι h w (execOp ρ o) Q := by
    rintro v k hq ⟨c, u, κ, h1, h2, h3, h4⟩
    exact ⟨v, k, hq, .value c, c, u, κ, by rw [hks]; simp [builtin, h1], .inl rfl, h2, h3, h4⟩
  simp only [E1.ev] at hv
  split at hv
  · exact hv.elim
  rename_i hsz0
  split at hv
  · -- a nil slice
    rename_i hs'
    rw [hs'] at rs
    simp only [VR] at rs
    obtain ⟨n, vs, cs, hv, hl, hf, hvr, hvl⟩ := src_run (P := P) hR rx hv
    have hfu : ∀ u, u.heap = w.heap → (Builtin.firstCells sz n (ρ x)).run P u = .ok cs.toArray u := by
      intro u hu
      have := hf n u hu (Nat.le_refl _)
      rwa [List.take_of_length_le (by rw [← hvr.length, hvl]; exact Nat.le_refl _)] at this
    split at hv
    · rename_i hn
      subst hn
      refine go _ _ hv ⟨.slice none 0 0, w, ι, ?_, rfl, hR, Ext.refl _ _ _⟩
      have := append_in (P := P) (w := w) (ty := o.type) (base := none) (len := 0) (cap := 0) ht0 hu0 ht hu hdu hsz hl (hfu w rfl) (Nat.le_refl _)
      rw [rs, this]; rfl
    · split at hv
      case isFalse => exact hv.elim
      rename_i hn hbnd
      obtain ⟨cap', extra, hge, hex, hrun⟩ := append_out (P := P) (w := w) (ty := o.type) (base := none) (len := 0) (cap := 0) (os := []) ht0 hu0 ht hu hdu hsz hinf hz hb hl (hfu _ rfl) (by simp [Builtin.firstCells]) (by omega) (by simpa using hbnd)
      simp only [Nat.zero_add] at hge hex hrun
      rw [hzsz] at hex
      obtain ⟨u, κ, h1, h2, h3, h4⟩ := append_new (P := P) (us := []) (os := []) (el := el) hR rfl hvr (by simpa using hvl) hge hex
      exact go _ _ hv ⟨_, u, κ, by rw [rs, hrun]; exact h1, h2, h3, h4⟩
  · -- a slice
    rename_i t' g o' len cap z' hs'
    split at hv
    · exact hv.elim
    rename_i hzz
    have hzz : z' = sz := by simpa using hzz
    subst hzz
    rw [hs'] at rs
    obtain ⟨n, vs, cs, hv2, hl, hf, hvr, hvl⟩ := src_run (P := P) hR rx hv
    have hfu : ∀ u, u.heap = w.heap → (Builtin.firstCells z' n (ρ x)).run P u = .ok cs.toArray u := by
      intro u hu
      have := hf n u hu (Nat.le_refl _)
      rwa [List.take_of_length_le (by rw [← hvr.length, hvl]; exact Nat.le_refl _)] at this
    obtain ⟨ob, hob, hv2⟩ := hv2
    cases ob with
    | map => exact hv2.elim
    | mit => exact hv2.elim
    | sto cells old dirty esz =>
    dsimp only at hv2
    have rs' := rs
    obtain ⟨B, cap', rc, hnc, hor⟩ := rs
    have hlc' : len ≤ cap' := by rcases hor with ⟨h1, h2⟩ | ⟨_, _, _, _, h1 | ⟨h1, _⟩⟩ <;> omega
    split at hv2
    · -- in place
      rename_i hle
      have hle' : len + n ≤ cap' := by rcases hor with ⟨h1, h2⟩ | ⟨_, _, _, _, h1 | ⟨h1, _⟩⟩ <;> omega
      have hin := append_in (P := P) (w := w) (ty := o.type) (base := some B) ht0 hu0 ht hu hdu hsz hl (hfu w rfl) hle'
      split at hv2
      · rename_i hn
        subst hn
        have hcs : cs = [] := by
          have h1 : vs.length = 0 := by rw [hvl]; simp
          exact List.length_eq_zero_iff.1 (by rw [← hvr.length]; exact h1)
        refine go _ _ hv2 ⟨.slice (some B) len cap', w, ι, by rw [rc, hin, hcs]; simp [storeCells], ?_, hR, Ext.refl _ _ _⟩
        exact rc ▸ rs'
      · rename_i hn
        split at hv2
        case h_2 => exact hv2.elim
        rename_i ob' hwr
        rcases hor with ⟨h1, h2⟩ | ⟨L, hL, hbase, rfl, hor⟩
        · omega
        obtain ⟨u', hrun, hR', hE⟩ := write_rel (P := P) hR hL (o := o' + len * z') (by omega) hob hwr hvr
        refine go _ _ hv2 ⟨.slice (some ⟨L.cb, L.coff + (o' - L.base), none⟩) (len + n) cap', u', ι, ?_, ?_, hR', hE⟩
        · rw [rc, hin]
          simp only [add_eq]
          rw [show L.coff + (o' - L.base) + len * z' = L.coff + (o' + len * z' - L.base) from by omega, hrun]
          rfl
        · exact ⟨_, cap', rfl, hle, .inr ⟨L, hL, hbase, rfl, hor⟩⟩
    · rename_i hgt
      split at hv2
      case isFalse => exact hv2.elim
      rename_i hbnd
      split at hv2
      · exact hv2.elim
      rename_i us hus
      have hrd : rdAt h.obj t' g o' (len * z') = some us := by simp only [rdAt, hob]; exact hus
      obtain ⟨_, husz, husl, husv⟩ := rdCells_some hus
      have hold : ∃ os : List Value, VRs ι us os ∧ os.length = len * z' ∧ ∀ u, u.heap = w.heap → (Builtin.firstCells z' len (.slice (some B) len cap')).run P u = .ok os.toArray u := by
        obtain ⟨ad, cp, os, he, hv2', hl', hcell⟩ := slc_run hR rs' hrd (by intro h; simp [h])
        rw [rc] at he
        simp only [Value.slice.injEq, Option.some.injEq] at he
        obtain ⟨rfl, _, rfl⟩ := he
        refine ⟨os, hv2', hl', fun u hu => ?_⟩
        have hcu : ∀ a, u.cell? a = w.cell? a := fun a => by simp [World.cell?, hu]
        have := run_loadCells_list (P := P) (w := u) _ os fun j d hj => by rw [hcu]; exact hcell j d hj
        rw [hl'] at this
        simp only [Builtin.firstCells]
        exact this
      obtain ⟨os, hosv, hosl, hosr⟩ := hold
      split at hv2
      · -- a new storage
        rename_i hex'
        have hce : cap' = cap := by
          rcases hor with ⟨h1, h2⟩ | ⟨L, hL, _, _, h1 | ⟨h1, h2, h3, _⟩⟩
          · omega
          · exact h1
          · obtain ⟨_, hcb, hst⟩ := hR.st _ _ L hL
            obtain ⟨hgen, hesz, c, el', fr, hc, hcsz, hfit, hd, hcur⟩ := hst _ _ _ _ hob
            rcases hex' with h4 | ⟨h4, h5, h6⟩
            · rw [hesz, h2] at h4; simp at h4
            · obtain ⟨h7, _⟩ := hcur h4
              obtain ⟨_, h8, _⟩ := hd h7
              rw [h8, h4] at h3
              simp [genSize] at h3
              omega
        subst hce
        obtain ⟨cap2, extra, hge, hex, hrun⟩ := append_out (P := P) (w := w) (ty := o.type) (base := some B) ht0 hu0 ht hu hdu hsz hinf hz hb hl (hfu _ rfl) (hosr _ rfl) (by omega) hbnd
        rw [hzsz] at hex
        obtain ⟨u', κ, h1, h2, h3, h4⟩ := append_new (P := P) (el := el) hR hosv hvr (by rw [hosv.length, hosl, hvl, Nat.add_mul]) hge hex
        exact go _ _ hv2 ⟨_, u', κ, by rw [rc, hrun]; exact h1, h2, h3, h4⟩
      · split at hv2
        case isFalse => exact hv2.elim
        rename_i hnex hcond
        obtain ⟨hcp, hg, hes, hleaf⟩ := hcond
        subst hg
        rcases hor with ⟨h1, h2⟩ | ⟨L, hL, hbase, rfl, hor⟩
        · omega
        obtain ⟨_, hcb, hst⟩ := hR.st _ _ L hL
        obtain ⟨hgen, hesz, c, el', fr, hc, hcsz, hfit, hd, hcur⟩ := hst _ _ _ _ hob
        have hnlt : ¬ o' + cap * z' < cells.length := fun hlt => hnex (.inr ⟨rfl, hes, hlt⟩)
        obtain ⟨hdirty, hfz⟩ := hcur rfl
        obtain ⟨⟨hbs, _⟩, hszL, hcell⟩ := hd hdirty
        have hszL' : L.size = cells.length := by rw [hszL]; simp [genSize]
        have hdd : ((if len = cap then dirty else old.length + 1) = dirty ∧ o' + len * z' = cells.length) ∨ (if len = cap then dirty else old.length + 1) = old.length + 1 := by
          by_cases hlc : len = cap
          · left; rw [if_pos hlc]; subst hlc; exact ⟨rfl, by omega⟩
          · right; rw [if_neg hlc]
        have hcl := hvr.length
        have hnn : ι.st t' (old.length + 1) = none := by
          cases hh : ι.st t' (old.length + 1) with
          | none => rfl
          | some M => have := ((hR.st _ _ M hh).2.2 _ _ _ _ hob).gen; omega
        by_cases hle' : len + n ≤ cap'
        · -- in the same block
          rcases hor with h1 | ⟨h1, h2, h3, h4⟩
          · omega
          have hroom : L.coff + (o' - L.base) + len * z' + n * z' ≤ c.size := by
            have : (len + n) * z' ≤ cap' * z' := Nat.mul_le_mul_right _ hle'
            rw [Nat.add_mul] at this
            omega
          have hin := append_in (P := P) (w := w) (ty := o.type) (base := some ⟨L.cb, L.coff + (o' - L.base), none⟩) ht0 hu0 ht hu hdu hsz hl (hfu w rfl) hle'
          obtain ⟨u', c', r1, r2, r3, r4, r5, r6, r7, r8, r9, r10⟩ := store_run (P := P) (off := L.coff + (o' - L.base) + len * z') cs 0 c w hc (by rw [← hcl, hvl]; omega) (fun j h5 h6 => by rw [← hcl, hvl] at h6; omega) (leafs_rel hvr hleaf)
          have hget : ∀ i, c'[i]? = if i < L.coff + (o' - L.base) + len * z' then c[i]? else if i < L.coff + (o' - L.base) + len * z' + cs.length then cs[i - (L.coff + (o' - L.base) + len * z')]? else c[i]? := by
            intro i
            rw [← Array.getElem?_toList, r3]
            simp only [Nat.add_zero]
            have hlc : c.toList.length = c.size := by simp
            have hcsn : cs.length = n * z' := by rw [← hcl, hvl]
            by_cases h1 : i < L.coff + (o' - L.base) + len * z'
            · rw [if_pos h1, List.getElem?_append_left (by rw [List.length_take, hlc]; omega), List.getElem?_take_of_lt h1]; simp
            · rw [if_neg h1]
              by_cases h2 : i < L.coff + (o' - L.base) + len * z' + cs.length
              · rw [if_pos h2, List.getElem?_append_right (by rw [List.length_take, hlc]; omega), List.getElem?_append_left (by rw [List.length_take, hlc]; omega)]
                congr 1; rw [List.length_take, hlc]; omega
              · rw [if_neg h2, List.getElem?_append_right (by rw [List.length_take, hlc]; omega), List.getElem?_append_right (by rw [List.length_take, hlc]; omega), List.getElem?_drop]
                rw [Array.getElem?_toList]
                congr 1; rw [List.length_take, hlc]; omega
          let K : Loc := ⟨L.cb, L.coff + (o' - L.base), o', o' + len * z' + vs.length, L.csz, esz, 0⟩
          have hle2 := Inj.le_addSt (ι := ι) (L := K) hnn
          have hnew : StoR (ι.addSt t' (old.length + 1) K) u' (old.length + 1) K (cells.take (o' + len * z') ++ vs) (cells.length :: old) (if len = cap then dirty else old.length + 1) esz := by
            refine ⟨by show old.length + 1 + 0 ≤ _; simp, rfl, c', el', fr, r2, by rw [r4]; exact hcsz, ?_, ?_, ?_⟩
            · show L.coff + (o' - L.base) + (o' + len * z' + vs.length - o') ≤ L.csz
              rw [hvl]; omega
            · intro _
              refine ⟨⟨by show o' ≤ o' + len * z' + vs.length; omega, ?_⟩, ?_, ?_⟩
              · show o' + len * z' + vs.length ≤ _
                rw [List.length_append, List.length_take]; omega
              · show o' + len * z' + vs.length = _
                simp only [genSize, List.length_cons, if_true, List.length_append, List.length_take]; omega
              · intro i v hi1 hi2 hiv
                have hi1 : o' ≤ i := hi1
                have hi2 : i < o' + len * z' + vs.length := hi2
                show ∃ d, c'[L.coff + (o' - L.base) + (i - o')]? = some d ∧ _
                rw [hget]
                by_cases h5 : i < o' + len * z'
                · rw [List.getElem?_append_left (by rw [List.length_take]; omega), List.getElem?_take_of_lt h5] at hiv
                  rw [if_pos (by omega)]
                  obtain ⟨d, hd1, hd2⟩ := hcell i v (by omega) (by omega) hiv
                  exact ⟨d, by rw [← hd1]; congr 1; omega, VR.mono hle2 _ _ hd2⟩
                · rw [List.getElem?_append_right (by rw [List.length_take]; omega)] at hiv
                  rw [if_neg (by omega), if_pos (by rw [← hcl]; omega)]
                  obtain ⟨d, hd1, hd2⟩ := hvr.get hiv
                  refine ⟨d, by rw [← hd1]; congr 1; rw [List.length_take]; omega, VR.mono hle2 _ _ hd2⟩
            · intro _
              refine ⟨?_, hfz⟩
              split
              · omega
              · exact Nat.le_refl _
          obtain ⟨hR', hE⟩ := bump_rel hR (u := u') (K := K) (vs := vs) hL hob husl hdd r7 r8 r9 (Nat.le_of_eq r10.symm) (by rw [r6]; exact Nat.le_refl _) (by rw [r6]; exact hcb) (fun k _ hk => r5 k hk)
            (.inl ⟨rfl, by show L.coff + (o' - L.base) + L.base = L.coff + o'; omega, c, c', el', fr, hc, r2, r4, fun i hi => by rw [hget, if_pos (by omega)]⟩) hnew
          refine go _ _ hv2 ⟨.slice (some ⟨L.cb, L.coff + (o' - L.base), none⟩) (len + n) cap', u', _, ?_, ?_, hR', hE⟩
          · rw [rc, hin]
            simp only [add_eq, r1]
            rfl
          · refine ⟨_, cap', rfl, Nat.le_refl _, .inr ⟨K, by simp [Inj.addSt], Nat.le_refl _, ?_, .inr ⟨hle', hes, ?_, ?_⟩⟩⟩
            · show _ = (⟨L.cb, L.coff + (o' - L.base) + (o' - o'), none⟩ : Addr); rw [Nat.sub_self]; rfl
            · show o' + (len + n) * z' = o' + len * z' + vs.length
              rw [hvl, Nat.add_mul]; omega
            · show L.coff + (o' - L.base) + (o' - o') + cap' * z' ≤ L.csz
              rw [Nat.sub_self]; exact h4
        · -- in a new block
          obtain ⟨cap2, extra, hge, hex, hrun⟩ := append_out (P := P) (w := w) (ty := o.type) (base := some ⟨L.cb, L.coff + (o' - L.base), none⟩) ht0 hu0 ht hu hdu hsz hinf hz hb hl (hfu _ rfl) (hosr _ rfl) (by omega) hbnd
          rw [hzsz] at hex
          let K : Loc := ⟨w.heap.size, 0, o', o' + len * z' + vs.length, (os ++ cs ++ extra).length, esz, 0⟩
          let u' : World := w.drew.alloc (.cells (os ++ cs ++ extra).toArray el)
          have hle2 := Inj.le_addSt (ι := ι) (L := K) hnn
          have hosl2 := hosv.length
          have hnew : StoR (ι.addSt t' (old.length + 1) K) u' (old.length + 1) K (cells.take (o' + len * z') ++ vs) (cells.length :: old) (if len = cap then dirty else old.length + 1) esz := by
            refine ⟨by show old.length + 1 + 0 ≤ _; simp, rfl, _, el, (0, 0), heap_alloc_new _ _, by simp [K], ?_, ?_, ?_⟩
            · show 0 + (o' + len * z' + vs.length - o') ≤ (os ++ cs ++ extra).length
              simp only [List.length_append]
              rw [hosl, ← hcl]; omega
            · intro _
              refine ⟨⟨by show o' ≤ o' + len * z' + vs.length; omega, ?_⟩, ?_, ?_⟩
              · show o' + len * z' + vs.length ≤ _
                rw [List.length_append, List.length_take]; omega
              · show o' + len * z' + vs.length = _
                simp only [genSize, List.length_cons, if_true, List.length_append, List.length_take]; omega
              · intro i v hi1 hi2 hiv
                have hi1 : o' ≤ i := hi1
                have hi2 : i < o' + len * z' + vs.length := hi2
                show ∃ d, (os ++ cs ++ extra).toArray[0 + (i - o')]? = some d ∧ _
                simp only [Nat.zero_add, List.getElem?_toArray, List.append_assoc]
                by_cases h5 : i < o' + len * z'
                · rw [List.getElem?_append_left (by rw [List.length_take]; omega), List.getElem?_take_of_lt h5] at hiv
                  rw [List.getElem?_append_left (by omega)]
                  have : us[i - o']? = some v := by
                    rw [husv, List.getElem?_take_of_lt (by omega), List.getElem?_drop]
                    rw [← hiv]; congr 1; omega
                  obtain ⟨d, hd1, hd2⟩ := hosv.get this
                  exact ⟨d, hd1, VR.mono hle2 _ _ hd2⟩
                · rw [List.getElem?_append_right (by rw [List.length_take]; omega)] at hiv
                  rw [List.getElem?_append_right (by omega), List.getElem?_append_left (by omega)]
                  obtain ⟨d, hd1, hd2⟩ := hvr.get hiv
                  refine ⟨d, by rw [← hd1]; congr 1; rw [List.length_take]; omega, VR.mono hle2 _ _ hd2⟩
            · intro _
              refine ⟨?_, .inl rfl⟩
              split
              · omega
              · exact Nat.le_refl _
          obtain ⟨hR', hE⟩ := bump_rel hR (u := u') (K := K) (vs := vs) hL hob husl hdd rfl rfl rfl (Nat.le_succ _) (by simp [u']) (by simp [u', K]) (fun k hk _ => heap_alloc_lt w.drew _ hk)
            (.inr (Nat.le_refl _)) hnew
          refine go _ _ hv2 ⟨.slice (some ⟨w.heap.size, 0, none⟩) (len + n) cap2, u', _, ?_, ?_, hR', hE⟩
          · rw [rc, hrun]
            simp [newRow, u']
            rfl
          · refine ⟨_, cap2, rfl, Nat.le_refl _, .inr ⟨K, by simp [Inj.addSt], Nat.le_refl _, ?_, .inr ⟨hge, hes, ?_, ?_⟩⟩⟩
            · show _ = (⟨w.heap.size, 0 + (o' - o'), none⟩ : Addr); rw [Nat.sub_self]
            · show o' + (len + n) * z' = o' + len * z' + vs.length
              rw [hvl, Nat.add_mul]; omega
            · show 0 + (o' - o') + cap2 * z' ≤ (os ++ cs ++ extra).length
              rw [Nat.sub_self]
              have : (len + n) * z' + (cap2 - (len + n)) * z' = cap2 * z' := by rw [← Nat.add_mul]; congr 1; omega
              rw [Nat.add_mul] at this
              simp only [List.length_append]
              rw [hosl, ← hcl, hvl, hex]; omega
  · exact hv.elim

theorem e_copy {o : Oper} {args : Array Operand} {ts : Array TypeId} {q : E1} {Q : V → Hp → Prop} (hR : Rel ι h w) (hρ : ∀ a b, cOpd a = some b → VR ι (b.val e) (ρ a)) (ho : o.op = .call { callee := .builtin .copy, args, argTypes := ts }) (hc : cCopy P args.toList ts = some (.e q)) (hv : (q.ev e).wp h Q) : GoesQ P ι h w (execOp ρ o) Q := by
  unfold cCopy at hc
  split at hc
  case h_2 => simp at hc
  rename_i s x hargs
  have := two_args hargs; subst this
  simp only [Option.bind_eq_some_iff] at hc
  obtain ⟨s', hs, x', hx, t, ht0, d, hd, hc⟩ := hc
  split at hc
  case h_2 => simp at hc
  rename_i el
  simp only [Option.map_eq_some_iff] at hc
  obtain ⟨sz, hsz, hc⟩ := hc
  simp only [A1.e.injEq] at hc; subst hc
  obtain ⟨ks, hks⟩ := call_b (P := P) (w := w) (ρ := ρ) ho
  have rs := hρ s s' hs
  have rx := hρ x x' hx
  have go : ∀ v k, Q v k → (∃ c u κ, (Builtin.copy_ ts o.type #[ρ s, ρ x]).run P w = .ok c u ∧ VR κ v c ∧ Rel κ k u ∧ Ext ι h w κ k u) → GoesQ P ι h w (execOp ρ o) Q := by
    rintro v k hq ⟨c, u, κ, h1, h2, h3, h4⟩
    exact ⟨v, k, hq, .value c, c, u, κ, by rw [hks]; simp [builtin, h1], .inl rfl, h2, h3, h4⟩
  simp only [E1.ev] at hv
  split at hv
  · exact hv.elim
  split at hv
  · rename_i hs'
    rw [hs'] at rs
    simp only [VR] at rs
    obtain ⟨n, vs, cs, hv2, hl, hf, hvr, hvl⟩ := src_run (P := P) hR rx hv
    have h0 := hf 0 w rfl (Nat.zero_le _)
    simp only [Nat.zero_mul, List.take_zero] at h0
    refine go _ _ hv2 ⟨goInt 0, w, ι, ?_, rfl, hR, Ext.refl _ _ _⟩
    unfold Builtin.copy_
    simp [ht0, run_underlying' hd, rs, hl, run_sizeOf hsz, h0]
  · rename_i t' g o' len cap z' hs'
    rw [hs'] at rs
    obtain ⟨n, vs, cs, hv2, hl, hf, hvr, hvl⟩ := src_run (P := P) hR rx hv
    obtain ⟨ob, hob, hv2⟩ := hv2
    cases ob with
    | map => exact hv2.elim
    | mit => exact hv2.elim
    | sto cells old dirty esz =>
    dsimp only at hv2
    obtain ⟨B, cap', rc, hnc, hor⟩ := rs
    have hfm := hf (min n len) w rfl (Nat.min_le_left _ _)
    split at hv2
    · rename_i hm
      rw [hm] at hfm
      simp only [Nat.zero_mul, List.take_zero] at hfm
      refine go _ _ hv2 ⟨goInt 0, w, ι, ?_, rfl, hR, Ext.refl _ _ _⟩
      have hm' : Nat.min n len = 0 := hm
      unfold Builtin.copy_
      simp [ht0, run_underlying' hd, rc, hl, run_sizeOf hsz, hm', hfm, storeCells]
    · rename_i hm
      split at hv2
      case h_2 => exact hv2.elim
      rename_i ob' hwr
      rcases hor with ⟨h1, h2⟩ | ⟨L, hL, hbase, rfl, hor⟩
      · omega
      obtain ⟨u', hrun, hR', hE⟩ := write_rel (P := P) hR hL hbase hob hwr (hvr.take (min n len * sz))
      refine go _ _ hv2 ⟨goInt (min n len : Nat), u', ι, ?_, rfl, hR', hE⟩
      have hfm' : (Builtin.firstCells sz (Nat.min n len) (ρ x)).run P w = .ok (cs.take (min n len * sz)).toArray w := hfm
      unfold Builtin.copy_
      simp only [ht0, List.getElem?_toArray, List.getElem?_cons_zero, List.getElem?_cons_succ, Sem.run_bind, run_underlying' hd, Result.andThen_ok, rc, hl, run_sizeOf hsz, hfm', hrun, Sem.run_pure]
  · exact hv.elim

end
end Go.Ab
