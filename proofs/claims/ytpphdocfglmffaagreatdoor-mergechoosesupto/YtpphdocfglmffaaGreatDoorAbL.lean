/- The reading operations. -/
import Derived.Test.YtpphdocfglmffaaGreatDoorAbK
import Derived.KernelRfl
set_option linter.unusedVariables false
set_option linter.unusedSimpArgs false
namespace Go.Ab

section
variable {P : Program} {ι : Inj} {w : World} {h : Hp} {e : Env} {ρ : Operand → Value}

theorem over_get (cs : List V) (o : Nat) (vs : List V) (h : o + vs.length ≤ cs.length) (i : Nat) : (over cs o vs)[i]? = if i < o then cs[i]? else if i < o + vs.length then vs[i - o]? else cs[i]? := by
  unfold over
  by_cases h1 : i < o
  · rw [if_pos h1, List.append_assoc, List.getElem?_append_left (by simp; omega), List.getElem?_take_of_lt h1]
  · rw [if_neg h1]
    by_cases h2 : i < o + vs.length
    · rw [if_pos h2, List.append_assoc, List.getElem?_append_right (by simp; omega), List.getElem?_append_left (by simp; omega)]
      congr 1; simp; omega
    · rw [if_neg h2, List.getElem?_append_right (by simp; omega), List.getElem?_drop]
      congr 1; simp; omega

theorem over_length (cs : List V) (o : Nat) (vs : List V) (h : o + vs.length ≤ cs.length) : (over cs o vs).length = cs.length := by
  unfold over; simp; omega

theorem rdCells_some {cells : List V} {old : List Nat} {dirty g o n : Nat} {vs : List V} (h : rdCells cells old dirty g o n = some vs) : dirty ≤ g ∧ o + n ≤ genSize cells old g ∧ o + n ≤ cells.length ∧ vs = (cells.drop o).take n := by
  unfold rdCells at h
  split at h
  · rename_i hh; simp at h; exact ⟨hh.1, hh.2.1, hh.2.2, h.symm⟩
  · simp at h

/-- what is read of a storage is read in the world -/
theorem rd_run {s g o n : Nat} {L : Loc} {cells : List V} {old : List Nat} {dirty : Nat} {esz : Option Nat} {vs : List V} (hR : Rel ι h w) (hL : ι.st s g = some L) (hb : L.base ≤ o) (ho : h.obj s = some (.sto cells old dirty esz)) (hr : rdCells cells old dirty g o n = some vs) :
    ∃ cs : List Value, VRs ι vs cs ∧ cs.length = n ∧ ∀ j d, cs[j]? = some d → w.cell? (Addr.add ⟨L.cb, L.coff + (o - L.base), none⟩ j) = some d := by
  obtain ⟨h1, h2, h3, rfl⟩ := rdCells_some hr
  obtain ⟨_, _, hst⟩ := hR.st s g L hL
  obtain ⟨_, _, c, el, fr, hc, hcs, _, hd, _⟩ := hst _ _ _ _ ho
  obtain ⟨⟨hbs, _⟩, hsz, hcell⟩ := hd h1
  have key : ∀ j, j < n → ∃ v d, cells[o + j]? = some v ∧ c[L.coff + (o - L.base) + j]? = some d ∧ VR ι v d := by
    intro j hj
    have hlt : o + j < cells.length := by omega
    obtain ⟨d, hd, hv⟩ := hcell (o + j) cells[o + j] (by omega) (by omega) (List.getElem?_eq_getElem hlt)
    refine ⟨cells[o + j], d, List.getElem?_eq_getElem hlt, ?_, hv⟩
    rw [← hd]; congr 1; omega
  have hlt : ∀ j, j < n → L.coff + (o - L.base) + j < c.size := by
    intro j hj
    obtain ⟨_, d, _, hd, _⟩ := key j hj
    exact (Array.getElem?_eq_some_iff.1 hd).1
  refine ⟨(c.toList.drop (L.coff + (o - L.base))).take n, VRs.mk ?_ ?_, ?_, ?_⟩
  · have : n ≤ c.size - (L.coff + (o - L.base)) := by
      rcases Nat.eq_zero_or_pos n with h0 | h0
      · omega
      · have := hlt (n - 1) (by omega); omega
    simp; omega
  · intro i v d hv hd
    rw [List.getElem?_take] at hv hd
    split at hv
    · rename_i hi
      rw [if_pos hi] at hd
      simp at hv hd
      obtain ⟨v', d', hv', hd', hvd⟩ := key i hi
      rw [hv'] at hv; rw [hd'] at hd
      simp at hv hd; subst hv; subst hd; exact hvd
    · simp at hv
  · have : n ≤ c.size - (L.coff + (o - L.base)) := by
      rcases Nat.eq_zero_or_pos n with h0 | h0
      · omega
      · have := hlt (n - 1) (by omega); omega
    simp; omega
  · intro j d hj
    rw [List.getElem?_take] at hj
    split at hj
    · simp at hj
      rw [add_eq]
      simp [World.cell?, hc, hj]
    · simp at hj

theorem rdAt_run {s g o n : Nat} {L : Loc} {vs : List V} (hR : Rel ι h w) (hL : ι.st s g = some L) (hb : L.base ≤ o) (hr : rdAt h.obj s g o n = some vs) :
    ∃ cs : List Value, VRs ι vs cs ∧ cs.length = n ∧ ∀ j d, cs[j]? = some d → w.cell? (Addr.add ⟨L.cb, L.coff + (o - L.base), none⟩ j) = some d := by
  unfold rdAt at hr
  split at hr
  · rename_i ho; exact rd_run hR hL hb ho hr
  · simp at hr

theorem rdVar_run {t : TypeId} {s g o : Nat} {sz : Option Nat} {v : V} {a : Value} (hR : Rel ι h w) (ht : shOf P t = some sz) (hx : VR ι (.ptr s g o) a) (hr : rdVar h.obj s g o sz = some v) :
    ∃ ad, a = .pointer (some ad) ∧ Pays P ι w (loadVar t ad) v := by
  obtain ⟨L, hL, hb, rfl⟩ := hx
  refine ⟨_, rfl, ?_⟩
  unfold shOf at ht
  simp only [Option.bind_eq_some_iff] at ht
  obtain ⟨d, hd, ht⟩ := ht
  have agg : ∀ n, szOf P t = some n → sz = some n → (isAgg t).run P w = .ok true w → Pays P ι w (loadVar t ⟨L.cb, L.coff + (o - L.base), none⟩) v := by
    rintro n hn rfl ha
    simp only [rdVar, Option.map_eq_some_iff] at hr
    obtain ⟨vs, hr, rfl⟩ := hr
    obtain ⟨cs, hv, hlen, hc⟩ := rdAt_run hR hL hb hr
    refine ⟨.agg cs.toArray, ?_, cs.toArray, rfl, by simpa using hv⟩
    unfold loadVar
    have := run_loadCells_list (P := P) (w := w) _ cs hc
    rw [hlen] at this
    simp only [Sem.run_bind, ha, Result.andThen_ok, if_true, run_sizeOf hn, this, Sem.run_pure]
  have one : sz = none → (isAgg t).run P w = .ok false w → Pays P ι w (loadVar t ⟨L.cb, L.coff + (o - L.base), none⟩) v := by
    rintro rfl ha
    simp only [rdVar] at hr
    split at hr
    · rename_i v' hr'
      simp at hr; subst hr
      obtain ⟨cs, hv, hlen, hc⟩ := rdAt_run hR hL hb hr'
      obtain ⟨d, r, rfl, hvd, hr2⟩ := hv
      have := hc 0 d (by simp)
      rw [add_eq] at this
      refine ⟨d, ?_, hvd⟩
      unfold loadVar
      simp only [Nat.add_zero] at this
      simp [ha, this]
    · simp at hr
  cases d with
  | struct fs => simp at ht; obtain ⟨n, hn, rfl⟩ := ht; exact agg n hn rfl (by unfold isAgg; simp [run_underlying' hd])
  | array m el => simp at ht; obtain ⟨n, hn, rfl⟩ := ht; exact agg n hn rfl (by unfold isAgg; simp [run_underlying' hd])
  | _ => simp at ht; subst ht; exact one rfl (by unfold isAgg; simp [run_underlying' hd])

theorem bytesV_rel : ∀ {vs : List V} {cs : List Value} {bs : List UInt8}, VRs ι vs cs → bytesV vs = some bs → ∃ xs : List Int, cs = xs.map (fun x => Value.int .u8 x) ∧ bs = xs.map fun x => UInt8.ofNat x.toNat
  | [], _, bs, h, hb => by simp [VRs] at h; subst h; simp [bytesV] at hb; subst hb; exact ⟨[], rfl, rfl⟩
  | v :: vs, _, bs, ⟨d, r, rfl, hv, hr⟩, hb => by
    unfold bytesV at hb
    split at hb
    · rename_i h; simp at h
    · rename_i n r' h
      simp at h
      obtain ⟨rfl, rfl⟩ := h
      simp only [Option.map_eq_some_iff] at hb
      obtain ⟨l, hl, rfl⟩ := hb
      simp only [VR] at hv; subst hv
      obtain ⟨xs, rfl, rfl⟩ := bytesV_rel hr hl
      exact ⟨n :: xs, rfl, rfl⟩
    · simp at hb

theorem run_loadBytesE : ∀ (xs : List Int) (a : Addr) (acc : ByteArray), (∀ j x, xs[j]? = some x → w.cell? (a.add j) = some (.int .u8 x)) →
    (Extern.Bytes.loadBytes a xs.length acc).run P w = .ok ⟨acc.data ++ (xs.map fun x => UInt8.ofNat x.toNat).toArray⟩ w
  | [], a, acc, _ => by simp [Extern.Bytes.loadBytes]
  | x :: l, a, acc, h => by
    have h0 : w.cell? a = some (.int .u8 x) := by
      have := h 0 x rfl
      simpa [Addr.add] using this
    have ih := run_loadBytesE l (a.add 1) (acc.push x.toNat.toUInt8) (fun j y hy => by
      have := h (j + 1) y (by simpa using hy)
      have e : (a.add 1).add j = a.add (j + 1) := by
        unfold Addr.add
        by_cases hj : j = 0
        · subst hj; simp
        · simp [hj]; omega
      rw [e]; exact this)
    simp only [List.length_cons, Extern.Bytes.loadBytes, Sem.run_bind, run_load, h0, Result.andThen]
    rw [ih]
    congr 1
    apply ByteArray.ext
    simp [ByteArray.push]

/-- the cells of a slice in the world -/
theorem slc_run {s g o n c z m : Nat} {a : Value} {vs : List V} (hR : Rel ι h w) (hx : VR ι (.slc s g o n c z) a) (hr : rdAt h.obj s g o m = some vs) (hm : n = 0 → m = 0) :
    ∃ ad cap' cs, a = .slice (some ad) n cap' ∧ VRs ι vs cs ∧ cs.length = m ∧ ∀ j d, cs[j]? = some d → w.cell? (ad.add j) = some d := by
  obtain ⟨A, cap', rfl, hn, hor⟩ := hx
  rcases hor with ⟨h1, h2⟩ | ⟨L, hL, hb, rfl, _⟩
  · have hm0 : m = 0 := hm (by omega)
    subst hm0
    have hv : vs = [] := by
      unfold rdAt at hr
      split at hr
      · obtain ⟨_, _, _, h⟩ := rdCells_some hr; simpa using h
      · simp at hr
    subst hv
    exact ⟨_, _, [], rfl, rfl, rfl, fun j d hj => by simp at hj⟩
  · obtain ⟨cs, hv, hl, hc⟩ := rdAt_run hR hL hb hr
    exact ⟨_, _, cs, rfl, hv, hl, hc⟩

theorem bytesOf_run {v : V} {a : Value} {bs : List UInt8} (hR : Rel ι h w) (hx : VR ι v a) (hb : bytesOf h.obj v = some bs) : ∃ b : ByteArray, (Extern.Bytes.bytesOf a).run P w = .ok b w ∧ b.data.toList = bs := by
  unfold bytesOf at hb
  split at hb
  · simp at hb; subst hb
    obtain ⟨b, rfl, rfl⟩ := hx
    exact ⟨b, rfl, rfl⟩
  · simp at hb; subst hb
    simp only [VR] at hx; subst hx
    exact ⟨.empty, rfl, rfl⟩
  · simp only [Option.bind_eq_some_iff] at hb
    obtain ⟨vs, hvs, hb⟩ := hb
    obtain ⟨ad, cap', cs, rfl, hv, hl, hc⟩ := slc_run hR hx hvs id
    obtain ⟨xs, rfl, rfl⟩ := bytesV_rel hv hb
    have := run_loadBytesE (P := P) (w := w) xs ad .empty fun j x hj => hc j _ (by simp [hj])
    simp only [List.length_map] at hl
    rw [hl] at this
    exact ⟨_, by simp only [Extern.Bytes.bytesOf]; exact this, by simp⟩
  · simp at hb

theorem foldBytes : ∀ (xs : List Int) (acc : ByteArray), ((forIn (xs.map fun x => Value.int .u8 x) acc fun c s => match c with
      | .int .u8 n => (pure (.yield (s.push (UInt8.ofNat n.toNat))) : Sem (ForInStep ByteArray))
      | _ => do (stuck "bytesToString: byte expected" : Sem PUnit); pure (.yield s)) : Sem ByteArray).run P w = .ok ⟨acc.data ++ (xs.map fun x => UInt8.ofNat x.toNat).toArray⟩ w
  | [], acc => by simp
  | x :: xs, acc => by
    have ih := foldBytes xs (acc.push (UInt8.ofNat x.toNat))
    simp only [List.map_cons, List.forIn_cons, Sem.run_bind, Sem.run_pure, Result.andThen_ok]
    rw [ih]
    congr 1
    apply ByteArray.ext
    simp [ByteArray.push]

theorem b2s_run {v : V} {a : Value} {bs : List UInt8} (hR : Rel ι h w) (hx : VR ι v a) (hs : ∀ s, v ≠ .str s) (hb : bytesOf h.obj v = some bs) : ∃ b : ByteArray, (Conv.bytesToString a).run P w = .ok (.string b) w ∧ b.data.toList = bs := by
  unfold bytesOf at hb
  split at hb
  · exact absurd rfl (hs _)
  · simp at hb; subst hb
    simp only [VR] at hx; subst hx
    exact ⟨.empty, rfl, rfl⟩
  · simp only [Option.bind_eq_some_iff] at hb
    obtain ⟨vs, hvs, hb⟩ := hb
    obtain ⟨ad, cap', cs, rfl, hv, hl, hc⟩ := slc_run hR hx hvs id
    obtain ⟨xs, rfl, rfl⟩ := bytesV_rel hv hb
    have hload := run_loadCells_list (P := P) (w := w) ad _ hc
    rw [hl] at hload
    refine ⟨⟨(xs.map fun x => UInt8.ofNat x.toNat).toArray⟩, ?_, by simp⟩
    unfold Conv.bytesToString
    simp only [Sem.run_bind, hload, Result.andThen_ok]
    rw [← Array.forIn_toList]
    refine (congrArg (fun x => Result.andThen x _) (foldBytes (P := P) (w := w) xs .empty)).trans ?_
    simp
  · simp at hb

theorem next_none {fn : Func} (h1 : Extern.allNextRows.lookup fn.name = none) (h2 : fn.origin = "") : Extern.findNext fn = none := by
  have e : Extern.allNextRows.lookup "" = none := by kernel_rfl
  unfold Extern.findNext
  simp [h1, h2, e]

theorem find_row {fn : Func} {g : Array Value → Sem Value} (h1 : Extern.allGenericRows.lookup fn.name = none) (h2 : Extern.allTypedRows.lookup fn.name = none) (h3 : Extern.allRows.lookup fn.name = some g) : Extern.find fn = some g := by
  unfold Extern.find
  simp [h1, h2, h3]

theorem ext_cmp {fn : Func} (h : fn.name = "internal/bytealg.Compare") (ho : fn.origin = "") : Extern.findNext fn = none ∧ Extern.find fn = some Extern.BytealgCompare.compare := by
  refine ⟨next_none ?_ ho, find_row ?_ ?_ ?_⟩ <;> rw [h] <;> kernel_rfl
theorem ext_idx {fn : Func} (h : fn.name = "internal/bytealg.IndexByte") (ho : fn.origin = "") : Extern.findNext fn = none ∧ Extern.find fn = some Extern.BytealgIndexByte.indexByte := by
  refine ⟨next_none ?_ ho, find_row ?_ ?_ ?_⟩ <;> rw [h] <;> kernel_rfl
theorem ext_idxs {fn : Func} (h : fn.name = "internal/bytealg.IndexByteString") (ho : fn.origin = "") : Extern.findNext fn = none ∧ Extern.find fn = some Extern.BytealgIndexByte.indexByte := by
  refine ⟨next_none ?_ ho, find_row ?_ ?_ ?_⟩ <;> rw [h] <;> kernel_rfl
theorem ext_clone {fn : Func} (h : fn.name = "maps.clone") (ho : fn.origin = "") : Extern.findNext fn = none ∧ Extern.find fn = some Extern.MapsClone.clone := by
  refine ⟨next_none ?_ ho, find_row ?_ ?_ ?_⟩ <;> rw [h] <;> kernel_rfl

theorem cmp_unf (a b : Value) : Extern.BytealgCompare.compare #[a, b] = (do pure (goInt (Extern.BytealgCompare.cmp (← Extern.Bytes.bytesOf a) (← Extern.Bytes.bytesOf b)))) := rfl
theorem idx_unf (a c : Value) : Extern.BytealgIndexByte.indexByte #[a, c] = (do
    let b ← Extern.Bytes.bytesOf a
    let c ← Extern.Bytes.asByte c
    match (List.range b.size).find? fun i => b[i]! == c with
    | some i => pure (goInt i)
    | none => pure (goInt (-1))) := rfl

theorem callExt {o : Oper} {f : FuncId} {fn : Func} {args : Array Operand} {ts : Array TypeId} (ho : o.op = .call { callee := .value (.func f), args, argTypes := ts }) (hf : P.funcs[f]? = some fn) (hρ : ρ (.func f) = .func (.func f) #[] #[])
    (h1 : (fn.name == "runtime.NumGoroutine") = false) (h2 : fn.body.isSome = false) (hn : Extern.findNext fn = none) {g : Array Value → Sem Value} (he : Extern.find fn = some g) :
    (execOp ρ o).run P w = ((g (args.map ρ)).run P w).andThen fun v w' => .ok (.value v) w' := by
  have h3 : fn.body.isNone = true := by cases hb : fn.body <;> simp_all
  unfold execOp; rw [ho]
  simp only [resolve, hρ, Deferred.ofValue, Sem.run_bind, Sem.run_pure, Result.andThen_ok, invoke, callFunc, run_program, hf]
  simp [h1, h3, hn, he]

theorem EntsR.get {ι : Inj} : ∀ {xs : List MEnt} {ys : List MapEntry}, EntsR ι xs ys → ∀ {i : Nat} {x : MEnt}, xs[i]? = some x → ∃ y, ys[i]? = some y ∧ EntR ι x y
  | [], _, _, i, x, hx => by simp at hx
  | x :: xs, _, ⟨y, r, rfl, hy, hr⟩, i, z, hz => by
    cases i with
    | zero => simp at hz; subst hz; exact ⟨y, by simp, hy⟩
    | succ i => simp at hz; simpa using EntsR.get hr hz

theorem EntsR.length {ι : Inj} : ∀ {xs : List MEnt} {ys : List MapEntry}, EntsR ι xs ys → xs.length = ys.length
  | [], _, h => by simp [EntsR] at h; simp [h]
  | x :: xs, _, ⟨y, r, rfl, _, hr⟩ => by simp [EntsR.length hr]

theorem keyEq_rel {q : LK} {t : TypeId} {x y : V} {a b : Value} {r : Bool} (ht : leafKind P t = some q) (hx : VR ι x a) (hy : VR ι y b) (hk : keyEq q x y = some r) : ∃ d, P.underlying t = some d ∧ Instr.sameNow d a b = some r := by
  unfold leafKind at ht
  unfold keyEq at hk
  split at hk
  · simp at hk; subst hk
    simp only [VR] at hx hy; subst hx; subst hy
    split at ht <;> simp at ht
    exact ⟨_, by assumption, rfl⟩
  · split at hk
    · rename_i hkk
      simp at hk; subst hk
      simp only [VR] at hx hy; subst hx; subst hy
      split at ht <;> simp at ht
      exact ⟨_, by assumption, by simp [Instr.sameNow, hkk]⟩
    · simp at hk
  · simp at hk; subst hk
    obtain ⟨c, rfl, rfl⟩ := hx
    obtain ⟨d, rfl, rfl⟩ := hy
    split at ht <;> simp at ht
    exact ⟨_, by assumption, by simp [Instr.sameNow, beq_toListBytes, toList_data]⟩
  · simp at hk

/-- what was found in a map -/
def FindR (ι : Inj) : Option (Nat × V) → Option (Nat × Value) → Prop
  | none, none => True
  | some x, some y => x.1 = y.1 ∧ VR ι x.2 y.2
  | _, _ => False

theorem find_rel {q : LK} {t : TypeId} {d : TypeDesc} (hd : P.underlying t = some d) (ht : leafKind P t = some q) {k : V} {a : Value} (hk : VR ι k a) : ∀ {xs : List MEnt} {ys : List MapEntry} {i : Nat} {r : Option (Nat × V)}, EntsR ι xs ys → findEnt q k xs i = some r →
    ∃ r', Instr.findNow d a ys i = some r' ∧ FindR ι r r'
  | [], ys, i, r, hr, h => by
    simp [EntsR] at hr; subst hr
    simp [findEnt] at h; subst h
    exact ⟨none, rfl, trivial⟩
  | x :: xs, _, i, r, ⟨y, ys, rfl, hy, hr⟩, h => by
    simp only [findEnt] at h
    split at h
    · rename_i hkq
      simp at h; subst h
      obtain ⟨d', hd', hs⟩ := keyEq_rel ht hk hy.1 hkq
      rw [hd] at hd'; simp at hd'; subst hd'
      exact ⟨some (i, y.val), by simp [Instr.findNow, hs], rfl, hy.2.1⟩
    · rename_i hkq
      obtain ⟨d', hd', hs⟩ := keyEq_rel ht hk hy.1 hkq
      rw [hd] at hd'; simp at hd'; subst hd'
      obtain ⟨r', h1, h2⟩ := find_rel hd ht hk hr h
      exact ⟨r', by simp [Instr.findNow, hs, h1], h2⟩
    · simp at h

theorem checkKey_leaf {q : LK} {t : TypeId} (ht : leafKind P t = some q) (emp : Bool) (a : Value) : (Instr.checkKey emp 10000 t a).run P w = .ok () w := by
  have e : Instr.checkKey emp 10000 t a = Instr.checkKey emp (9999 + 1) t a := rfl
  rw [e, Instr.checkKey]
  unfold leafKind at ht
  split at ht <;> simp at ht <;> rename_i hu <;> simp [run_underlying' hu]

theorem findKey_run {q : LK} {t : TypeId} (ht : leafKind P t = some q) {k : V} {a : Value} (hk : VR ι k a) {xs : List MEnt} {ys : List MapEntry} {r : Option (Nat × V)} (hr : EntsR ι xs ys) (h : findEnt q k xs 0 = some r) :
    ∃ r', (Instr.findKey t a ys).run P w = .ok r' w ∧ FindR ι r r' := by
  have hu : ∃ d, P.underlying t = some d := by
    unfold leafKind at ht
    split at ht <;> simp at ht <;> exact ⟨_, by assumption⟩
  obtain ⟨d, hd⟩ := hu
  obtain ⟨r', h1, h2⟩ := find_rel hd ht hk hr h
  refine ⟨r', ?_, h2⟩
  unfold Instr.findKey
  simp only [Sem.run_bind, run_underlying' hd, Result.andThen_ok, h1, Sem.run_pure]

/-- the entries of a map in the world -/
theorem ents_run {v : V} {a : Value} {es : List MEnt} (hR : Rel ι h w) (hx : VR ι v a) (he : entsOf h.obj v = some es) :
    (es = [] ∧ a = .map none) ∨ ∃ c ces clock, a = .map (some c) ∧ w.heap[c]? = some (.map ces clock) ∧ EntsR ι es ces.toList := by
  unfold entsOf at he
  split at he
  · simp at he; subst he; exact .inl ⟨rfl, hx⟩
  · obtain ⟨c, hc, rfl⟩ := hx
    split at he
    · rename_i ho
      simp at he; subst he
      obtain ⟨_, _, o, ho', hor⟩ := hR.ob _ _ hc
      rw [ho] at ho'; simp at ho'; subst ho'
      obtain ⟨ces, h1, h2⟩ := hor
      exact .inr ⟨c, ces, _, rfl, h1, h2⟩
    · simp at he
  · simp at he

theorem run_getObj {r : Nat} {o : Obj} (ho : w.heap[r]? = some o) (hn : ∀ c t f, o ≠ .cells c t f) : (getObj r).run P w = .ok o w := by
  unfold getObj
  cases o <;> first | exact absurd rfl (hn _ _ _) | simp [Sem.run, ho]

theorem r_load {o : Oper} {t : TypeId} {a : Operand} {q : R1} {v : V} (hR : Rel ι h w) (hρ : ∀ a b, cOpd a = some b → VR ι (b.val e) (ρ a)) (ho : o.op = .load t a) (hc : cOp P o.op = some (.r q)) (hv : q.ev e h.obj = some v) :
    ∃ c, (execOp ρ o).run P w = .ok (.value c) w ∧ VR ι v c := by
  rw [ho] at hc; simp only [cOp, Option.bind_eq_some_iff, Option.map_eq_some_iff] at hc
  obtain ⟨s, hs, y, hy, hc⟩ := hc
  simp only [A1.r.injEq] at hc; subst hc
  have rx := hρ a y hy
  simp only [R1.ev] at hv
  split at hv
  · rename_i s' g o' hy'
    rw [hy'] at rx
    obtain ⟨ad, hw, hp⟩ := rdVar_run (P := P) hR hs rx hv
    exact execP (s := Instr.loadAt t (ρ a)) (by unfold execOp; rw [ho]) (by unfold Instr.loadAt; rw [hw]; simpa [Instr.sureAddr] using hp)
  · simp at hv

theorem r_look {o : Oper} {t : TypeId} {m k : Operand} {ok : Bool} {q : R1} {v : V} (hR : Rel ι h w) (hρ : ∀ a b, cOpd a = some b → VR ι (b.val e) (ρ a)) (ho : o.op = .lookup t m k ok) (hc : cOp P o.op = some (.r q)) (hv : q.ev e h.obj = some v) :
    ∃ c, (execOp ρ o).run P w = .ok (.value c) w ∧ VR ι v c := by
  rw [ho] at hc; simp only [cOp, Option.bind_eq_some_iff] at hc
  obtain ⟨m', hm, k', hk, d, hd, hc⟩ := hc
  cases d with
  | map kt et =>
    simp only [Option.bind_eq_some_iff, Option.map_eq_some_iff] at hc
    obtain ⟨kk, hkk, z, hz, hc⟩ := hc
    simp only [A1.r.injEq] at hc; subst hc
    obtain ⟨zc, hzr, hzv, _⟩ := run_zeroValue hz
    simp only [R1.ev, Option.bind_eq_some_iff] at hv
    obtain ⟨es, hes, r, hr, hv⟩ := hv
    refine execP (s := Instr.lookup t (ρ m) (ρ k) ok) (by unfold execOp; rw [ho]) ?_
    have val : ∀ (r' : Option (Nat × Value)), FindR ι r r' → ∃ c, (match r' with | some y => (if ok then Value.tuple #[y.2, .bool true] else y.2) | none => (if ok then Value.tuple #[zc, .bool false] else zc)) = c ∧ VR ι v c := by
      intro r' h2
      refine ⟨_, rfl, ?_⟩
      cases r with
      | none =>
        cases r' with
        | some y => exact h2.elim
        | none =>
          simp only [Option.some.injEq] at hv
          subst hv
          cases ok
          · exact hzv ι
          · exact ⟨_, rfl, zc, _, rfl, hzv ι, .bool false, [], rfl, rfl, rfl⟩
      | some x =>
        cases r' with
        | none => exact h2.elim
        | some y =>
          obtain ⟨x1, x2⟩ := x
          obtain ⟨y1, y2⟩ := y
          obtain ⟨_, hxy⟩ := h2
          simp only [Option.some.injEq] at hv
          subst hv
          cases ok
          · exact hxy
          · exact ⟨_, rfl, y2, _, rfl, hxy, .bool true, [], rfl, rfl, rfl⟩
    rcases ents_run hR (hρ m m' hm) hes with ⟨rfl, ha⟩ | ⟨c, ces, clock, ha, hw, hr'⟩
    · obtain ⟨r', h1, h2⟩ := findKey_run (P := P) (w := w) (ι := ι) (ys := []) hkk (hρ k k' hk) (by simp [EntsR]) hr
      obtain ⟨c, rfl, hvc⟩ := val r' h2
      refine ⟨_, ?_, hvc⟩
      unfold Instr.lookup
      rw [ha]
      cases r' with
      | none => simp [run_underlying' hd, checkKey_leaf hkk, h1, hzr]
      | some y => simp [run_underlying' hd, checkKey_leaf hkk, h1]
    · obtain ⟨r', h1, h2⟩ := findKey_run (P := P) (w := w) hkk (hρ k k' hk) hr' hr
      obtain ⟨c, rfl, hvc⟩ := val r' h2
      refine ⟨_, ?_, hvc⟩
      unfold Instr.lookup
      rw [ha]
      cases r' with
      | none => simp [run_underlying' hd, run_getObj hw, checkKey_leaf hkk, h1, hzr]
      | some y => simp [run_underlying' hd, run_getObj hw, checkKey_leaf hkk, h1]
  | _ => simp at hc

theorem r1_sound {o : Oper} {q : R1} {v : V} (hR : Rel ι h w) (hρ : ∀ a b, cOpd a = some b → VR ι (b.val e) (ρ a)) (hf : ∀ f, ρ (.func f) = .func (.func f) #[] #[]) (hc : cOp P o.op = some (.r q)) (hv : q.ev e h.obj = some v) :
    ∃ c, (execOp ρ o).run P w = .ok (.value c) w ∧ VR ι v c := by
  cases ho : o.op with
  | load t a => exact r_load hR hρ ho hc hv
  | lookup t m k ok => exact r_look hR hρ ho hc hv
  | convert src dst x =>
    rw [ho] at hc; simp only [cOp, Option.bind_eq_some_iff] at hc
    obtain ⟨y, hy, a, ha, b, hb, hc⟩ := hc
    have rx := hρ x y hy
    split at hc
    · simp at hc
    · simp at hc
    · split at hc
      · split at hc <;> simp at hc
      · simp at hc
    · rename_i el
      have hel' : P.underlying el = some (.int .u8) := by
        split at hc
        · assumption
        · simp at hc
      simp [hel'] at hc; subst hc
      refine execP (s := convert src dst (ρ x)) (by unfold execOp; rw [ho]) ?_
      simp only [R1.ev] at hv
      split at hv
      · simp at hv
      · rename_i hns
        simp only [Option.map_eq_some_iff] at hv
        obtain ⟨bs, hbs, rfl⟩ := hv
        obtain ⟨c, hc, hcb⟩ := b2s_run (P := P) hR rx hns hbs
        refine ⟨.string c, ?_, c, rfl, hcb⟩
        have hsl : ∃ p n c', ρ x = .slice p n c' := by
          unfold bytesOf at hbs
          split at hbs
          · exact absurd (by assumption) (hns _)
          · rename_i h1; rw [h1] at rx; exact ⟨_, _, _, rx⟩
          · rename_i h1; rw [h1] at rx; obtain ⟨_, _, h2, _⟩ := rx; exact ⟨_, _, _, h2⟩
          · simp at hbs
        obtain ⟨p, n, c', hsl⟩ := hsl
        rw [hsl] at hc ⊢
        unfold convert
        simp only [Sem.run_bind, run_underlying' ha, run_underlying' hb, Result.andThen_ok, run_underlying' hel', hc]
    · split at hc
      · split at hc <;> simp at hc
      · simp at hc
    · simp at hc
  | call c =>
    rw [ho] at hc
    obtain ⟨callee, args, ts⟩ := c
    simp only [cOp] at hc
    split at hc
    · rename_i b
      cases b with
      | len =>
        simp only [cBuiltin, cLen] at hc
        split at hc
        case h_2 => simp at hc
        rename_i x hx
        have := one_arg hx; subst this
        simp only [Option.bind_eq_some_iff] at hc
        obtain ⟨y, hy, t, ht, d, hd, hc⟩ := hc
        have rx := hρ x y hy
        cases d <;> simp at hc
        subst hc
        simp only [R1.ev, Option.map_eq_some_iff] at hv
        obtain ⟨es, hes, rfl⟩ := hv
        obtain ⟨ks, hks⟩ := call_b (P := P) (w := w) (ρ := ρ) ho
        rw [hks]
        refine ⟨goInt es.length, ?_, rfl⟩
        rcases ents_run hR rx hes with ⟨rfl, ha⟩ | ⟨c, ces, clock, ha, hw, hr'⟩
        · simp [builtin, Builtin.len_, ht, run_underlying' hd, ha]
        · have := hr'.length
          simp only [Array.length_toList] at this
          simp [builtin, Builtin.len_, ht, run_underlying' hd, ha, run_getObj hw, this]
      | append =>
        simp only [cBuiltin, cAppend] at hc
        split at hc
        · simp only [Option.bind_eq_some_iff] at hc
          obtain ⟨_, _, _, _, _, _, _, _, _, _, _, _, hc⟩ := hc
          split at hc
          · split at hc
            · simp at hc
            · simp only [Option.bind_eq_some_iff] at hc
              obtain ⟨_, _, _, _, _, _, hc⟩ := hc
              split at hc <;> simp at hc
          · simp at hc
        · simp at hc
      | copy =>
        simp only [cBuiltin, cCopy] at hc
        split at hc
        · simp only [Option.bind_eq_some_iff] at hc
          obtain ⟨_, _, _, _, _, _, _, _, hc⟩ := hc
          split at hc <;> simp at hc
        · simp at hc
      | delete =>
        simp only [cBuiltin, cDelete] at hc
        split at hc
        · simp only [Option.bind_eq_some_iff] at hc
          obtain ⟨_, _, _, _, _, _, _, _, hc⟩ := hc
          split at hc <;> simp at hc
        · simp at hc
      | min =>
        simp only [cBuiltin, cMinmax] at hc
        split at hc <;> simp [Option.bind_eq_some_iff] at hc
      | max =>
        simp only [cBuiltin, cMinmax] at hc
        split at hc <;> simp [Option.bind_eq_some_iff] at hc
      | _ => simp [cBuiltin] at hc
    · rename_i f
      simp only [Option.bind_eq_some_iff] at hc
      obtain ⟨fn, hfn, hc⟩ := hc
      split at hc
      · simp at hc
      rename_i hng
      split at hc
      · simp at hc
      rename_i hbody
      split at hc
      case isFalse => simp at hc
      rename_i hor
      unfold cExtern at hc
      split at hc
      · rename_i a b hab
        have := two_args hab; subst this
        simp only [Option.bind_eq_some_iff] at hc
        obtain ⟨a', ha', b', hb', hc⟩ := hc
        have ra := hρ a a' ha'
        have rb := hρ b b' hb'
        have idx : q = .bidx a' b' → ∀ (hn : Extern.findNext fn = none) (he : Extern.find fn = some Extern.BytealgIndexByte.indexByte), ∃ c, (execOp ρ o).run P w = .ok (.value c) w ∧ VR ι v c := by
          rintro rfl hn he
          rw [callExt ho hfn (hf f) (by simpa using hng) (by simpa using hbody) hn he]
          simp only [R1.ev, Option.bind_eq_some_iff] at hv
          obtain ⟨x, hx, hv⟩ := hv
          split at hv
          · rename_i n hn
            simp at hv; subst hv
            rw [hn] at rb
            simp only [VR] at rb
            obtain ⟨bx, hbx, rfl⟩ := bytesOf_run (P := P) hR ra hx
            have := Lib.run_indexByteString (P := P) bx n w
            refine ⟨_, ?_, rfl⟩
            have e1 : (Extern.BytealgIndexByte.indexByte #[ρ a, .int .u8 n]).run P w = (Extern.BytealgIndexByte.indexByte #[.string bx, .int .u8 n]).run P w := by
              rw [idx_unf, idx_unf]
              simp only [Sem.run_bind, hbx]
              rfl
            simp only [List.map_toArray, List.map_cons, List.map_nil, rb]
            rw [e1, this]
            rfl
          · simp at hv
        split at hc
        · rename_i hnm
          simp at hc; subst hc
          obtain ⟨hn, he⟩ := ext_cmp hnm hor
          rw [callExt ho hfn (hf f) (by simpa using hng) (by simpa using hbody) hn he]
          simp only [R1.ev, Option.bind_eq_some_iff, Option.map_eq_some_iff] at hv
          obtain ⟨x, hx, y, hy, rfl⟩ := hv
          obtain ⟨bx, hbx, rfl⟩ := bytesOf_run (P := P) hR ra hx
          obtain ⟨by', hby, rfl⟩ := bytesOf_run (P := P) hR rb hy
          refine ⟨_, ?_, rfl⟩
          simp only [List.map_toArray, List.map_cons, List.map_nil]
          rw [cmp_unf]
          simp only [Sem.run_bind, hbx, hby, Result.andThen_ok, Sem.run_pure, Lib.cmp_eq]
          rfl
        split at hc
        · rename_i hnm
          simp at hc
          exact idx hc.symm (ext_idx hnm hor).1 (ext_idx hnm hor).2
        split at hc
        · rename_i hnm
          simp at hc
          exact idx hc.symm (ext_idxs hnm hor).1 (ext_idxs hnm hor).2
        · simp at hc
      · simp only [Option.bind_eq_some_iff] at hc
        obtain ⟨_, _, hc⟩ := hc
        split at hc <;> simp at hc
      · simp at hc
    · simp only [Option.bind_eq_some_iff, Option.map_eq_some_iff] at hc
      obtain ⟨_, _, _, _, hc⟩ := hc
      simp at hc
    · simp at hc
  | binOp bop t x y u =>
    rw [ho] at hc; simp only [cOp, Option.bind_eq_some_iff] at hc
    obtain ⟨_, _, _, _, hc⟩ := hc
    split at hc
    · split at hc <;> simp at hc
    · split at hc <;> simp at hc
    · simp at hc
  | move x => rw [ho] at hc; simp [cOp] at hc
  | assign x => rw [ho] at hc; simp [cOp] at hc
  | pick c a b => rw [ho] at hc; simp [cOp, Option.bind_eq_some_iff] at hc
  | alloc t => rw [ho] at hc; simp [cOp] at hc
  | box t x => rw [ho] at hc; simp [cOp] at hc
  | build t ps =>
    rw [ho] at hc; simp only [cOp, Option.bind_eq_some_iff] at hc
    obtain ⟨d, _, _, _, hc⟩ := hc
    cases d <;> simp [Option.bind_eq_some_iff] at hc
  | buildSlice t n ps =>
    rw [ho] at hc; simp only [cOp, Option.bind_eq_some_iff] at hc
    obtain ⟨d, _, hc⟩ := hc
    cases d <;> simp [Option.bind_eq_some_iff] at hc
  | store t a x => rw [ho] at hc; simp [cOp, Option.bind_eq_some_iff] at hc
  | nilCheck x => rw [ho] at hc; simp [cOp] at hc
  | unOp uop t x => rw [ho] at hc; simp [cOp] at hc
  | sliceToArrayPointer arr x =>
    rw [ho] at hc; simp only [cOp, Option.bind_eq_some_iff] at hc
    obtain ⟨_, _, d, _, hc⟩ := hc
    cases d <;> simp at hc
  | makeInterface t x =>
    rw [ho] at hc; simp only [cOp, Option.bind_eq_some_iff] at hc
    obtain ⟨_, _, d, _, hc⟩ := hc
    cases d <;> simp at hc
  | makeFunc f a b =>
    rw [ho] at hc; simp only [cOp] at hc
    split at hc <;> simp [Option.bind_eq_some_iff] at hc
  | makeMap t r =>
    rw [ho] at hc; simp only [cOp, Option.bind_eq_some_iff] at hc
    obtain ⟨d, _, hc⟩ := hc
    cases d <;> simp at hc
    split at hc <;> simp at hc
  | makeSlice t l c =>
    rw [ho] at hc; simp only [cOp, Option.bind_eq_some_iff] at hc
    obtain ⟨d, _, hc⟩ := hc
    cases d <;> simp [Option.bind_eq_some_iff] at hc
  | slice t x lo hi mx =>
    rw [ho] at hc; simp only [cOp, Option.bind_eq_some_iff] at hc
    obtain ⟨_, _, _, _, _, _, _, _, d, _, hc⟩ := hc
    cases d <;> simp [Option.bind_eq_some_iff] at hc
    obtain ⟨d, _, hc⟩ := hc
    cases d <;> simp at hc
  | fieldAddr s x f =>
    rw [ho] at hc; simp only [cOp, Option.bind_eq_some_iff] at hc
    obtain ⟨_, _, d, _, hc⟩ := hc
    cases d <;> simp at hc
  | field t x f =>
    rw [ho] at hc; simp only [cOp, Option.bind_eq_some_iff] at hc
    obtain ⟨_, _, d, _, hc⟩ := hc
    cases d <;> simp [Option.bind_eq_some_iff] at hc
  | indexAddr t x i =>
    rw [ho] at hc; simp only [cOp, Option.bind_eq_some_iff] at hc
    obtain ⟨_, _, _, _, d, _, hc⟩ := hc
    cases d <;> simp at hc
  | index t x i =>
    rw [ho] at hc; simp only [cOp, Option.bind_eq_some_iff] at hc
    obtain ⟨_, _, _, _, d, _, hc⟩ := hc
    cases d <;> simp [Option.bind_eq_some_iff] at hc
  | mapUpdate t m k x =>
    rw [ho] at hc; simp only [cOp, Option.bind_eq_some_iff] at hc
    obtain ⟨_, _, _, _, _, _, d, _, hc⟩ := hc
    cases d <;> simp at hc
  | insert t m k x =>
    rw [ho] at hc; simp only [cOp, Option.bind_eq_some_iff] at hc
    obtain ⟨_, _, _, _, _, _, d, _, hc⟩ := hc
    cases d <;> simp at hc
  | range t x =>
    rw [ho] at hc; simp only [cOp, Option.bind_eq_some_iff] at hc
    obtain ⟨_, _, d, _, hc⟩ := hc
    cases d <;> simp at hc
  | next it s => rw [ho] at hc; cases s <;> simp [cOp] at hc
  | entry it => rw [ho] at hc; simp [cOp] at hc
  | typeAssert x xt t ok =>
    rw [ho] at hc
    cases ok
    · simp only [cOp, Option.bind_eq_some_iff] at hc
      obtain ⟨_, _, d, _, hc⟩ := hc
      cases d <;> simp at hc
    · simp [cOp] at hc
  | extract t i => rw [ho] at hc; simp [cOp] at hc
  | _ => rw [ho] at hc; simp [cOp] at hc

end
end Go.Ab
