/- The abstract machine is sound. -/
import Derived.Test.YtpphdocfglmffaaGreatDoorAbY
set_option linter.unusedVariables false
set_option linter.unusedSimpArgs false
namespace Go.Ab
open Go.RowKit (Below)

section
variable {P : Program} {A : Tb}

/-- what has come about: the frame, the heap, and what else of the world was left alone -/
def After (nt : Nat) (ι : Inj) (h : Hp) (w : World) (ds : List Deferred) (e' : Env) (h' : Hp) (a' : Act) (w' : World) : Prop :=
  ∃ κ, nt ≤ a'.tmps.size ∧ ER κ e' a'.tmps ∧ Rel κ h' w' ∧ Ext ι h w κ h' w' ∧ a'.defers = ds

/-- a call comes back -/
def CallsTo (P : Program) (f : Nat) (cargs : Array Value) (ι : Inj) (h : Hp) (w : World) (Q : Rs → Hp → Prop) : Prop :=
  Calls P f cargs w fun en w' => ∃ v h' κ c, Q (.val v) h' ∧ en = .returned c ∧ VR κ v c ∧ Rel κ h' w' ∧ Ext ι h w κ h' w'

def Sound (P : Program) : Wk → Hp → (Rs → Hp → Prop) → Prop
  | .code c e, h, Q => ∀ nt code ι a w, cCode P nt code = some c → nt ≤ a.tmps.size → ER ι e a.tmps → Rel ι h w →
      code.wp P (fun x a' w' => ∃ y e' h', x = exOf y ∧ Q (.ex y e') h' ∧ After nt ι h w a.defers e' h' a' w') a w
  | .ops l e, h, Q => ∀ nt ops is ι a w Qc, Matches P nt ops is l → nt ≤ a.tmps.size → ER ι e a.tmps → Rel ι h w →
      (∀ e' h' a' w', Q (.env e') h' → After nt ι h w a.defers e' h' a' w' → Qc .normal a' w') → wpOps P ops Qc is a w
  | .op q e, h, Q => ∀ (o : Oper) ι a w eC K Qc, cOp P o.op = some q → (∀ t ∈ q.ts, eC t = e t) → ER ι eC a.tmps → Rel ι h w →
      (∀ v h' κ c w', Q (.val v) h' → VR κ v c → Rel κ h' w' → Ext ι h w κ h' w' → K (a.put o.dst c) w') → o.wp P a w K Qc
  | .draw l e, h, Q => ∀ nt ops ls bits done pre rest, Static P nt ops ls bits → orderOk ls bits done pre rest = true → l = withChk ls bits pre rest → (∀ i, i < ls.length → (done.testBit i = true ↔ i ∈ pre)) →
      ∀ ι0 h0 w0 ds sl (Qc : Exit → Act → World → Prop), (∀ e' h' a' w', Q (.env e') h' → After nt ι0 h0 w0 ds e' h' a' w' → Qc .normal a' w') →
      ∀ fuel listed ι eC a w (u : List Nat), Inv nt ls bits ι0 h0 w0 ds pre listed sl ι e eC h a w → u.length ≤ fuel → (∀ i, i < ls.length → listed.getD i false = false → i ∈ u) → wpAny P .any ops Qc fuel listed a w
  | .call f args, h, Q => ∀ ι (cargs : Array Value) w, VRs ι args cargs.toList → Rel ι h w → CallsTo P f cargs ι h w Q

theorem After.refl {nt : Nat} {ι : Inj} {h : Hp} {w : World} {e : Env} {a : Act} (h1 : nt ≤ a.tmps.size) (h2 : ER ι e a.tmps) (h3 : Rel ι h w) : After nt ι h w a.defers e h a w := ⟨ι, h1, h2, h3, Ext.refl _ _ _, rfl⟩

theorem er_args {ι : Inj} {args : List V} {cargs : Array Value} (hv : VRs ι args cargs.toList) (n : Nat) : ER ι (argE args) (cargs ++ Array.replicate n undef) := by
  intro t
  unfold argE
  rw [List.getD_eq_getElem?_getD, Array.getD_eq_getD_getElem?]
  cases ht : args[t]? with
  | some v =>
    obtain ⟨c, hc, hvc⟩ := hv.get ht
    have hlt : t < cargs.size := by simpa using (List.getElem?_eq_some_iff.1 hc).1
    rw [Array.getElem?_append_left hlt]
    have : cargs[t]? = some c := by simpa using hc
    rw [this]; exact hvc
  | none =>
    have hge : cargs.size ≤ t := by
      have := hv.length
      have := List.getElem?_eq_none_iff.1 ht
      simp at *; omega
    rw [Array.getElem?_append_right hge]
    simp only [Option.getD_none]
    cases hh : (Array.replicate n undef)[t - cargs.size]? with
    | none => exact und_rel
    | some c =>
      have := Array.getElem?_eq_some_iff.1 hh
      obtain ⟨_, rfl⟩ := this
      simp only [Array.getElem_replicate]
      exact und_rel

/-- the results, read -/
theorem results_run {ι : Inj} {h : Hp} {w : World} {e : Env} {fn : Func} {rs : List ARes} {ts : Array Value} {v : V} (hR : Rel ι h w) (hE : ER ι e ts) (hr : allO (cRes P fn.ntmps) fn.results.toList = some rs) (hv : resVs e h.obj rs = some v) :
    ∃ c, (results fn ts).run P w = .ok c w ∧ VR ι v c := by
  unfold resVs at hv
  simp only [Option.map_eq_some_iff] at hv
  obtain ⟨vs, hvs, rfl⟩ := hv
  have key : ∀ (l : List ResultVar) (rs : List ARes) (vs : List V), allO (cRes P fn.ntmps) l = some rs → allO (resV e h.obj) rs = some vs →
      ∃ cs : List Value, (l.mapM fun (r : ResultVar) => match r with
        | .tmp t => (pure (ts.getD t undef) : Sem Value)
        | .cell a t => do loadVar t (← asAddr (ts.getD a undef))).run P w = .ok cs w ∧ VRs ι vs cs := by
    intro l
    induction l with
    | nil =>
      intro rs vs h1 h2
      simp [allO] at h1; subst h1
      simp [allO] at h2; subst h2
      exact ⟨[], by simp, rfl⟩
    | cons r l ih =>
      intro rs vs h1 h2
      simp only [allO, Option.bind_eq_some_iff, Option.map_eq_some_iff] at h1
      obtain ⟨x, hx, rs', hrs', rfl⟩ := h1
      simp only [allO, Option.bind_eq_some_iff, Option.map_eq_some_iff] at h2
      obtain ⟨v, hv, vs', hvs', rfl⟩ := h2
      obtain ⟨cs, hcs, hrel⟩ := ih rs' vs' hrs' hvs'
      have one : ∃ c, (match r with
        | .tmp t => (pure (ts.getD t undef) : Sem Value)
        | .cell a t => do loadVar t (← asAddr (ts.getD a undef))).run P w = .ok c w ∧ VR ι v c := by
        cases r with
        | tmp t =>
          simp only [cRes] at hx
          split at hx
          · simp at hx; subst hx
            simp only [resV, Option.some.injEq] at hv
            subst hv
            exact ⟨_, by simp, hE t⟩
          · simp at hx
        | cell a t =>
          simp only [cRes] at hx
          split at hx
          · simp only [Option.map_eq_some_iff] at hx
            obtain ⟨sz, hsz, rfl⟩ := hx
            simp only [resV] at hv
            split at hv
            · rename_i s g o hs
              have ha := hE a
              rw [hs] at ha
              obtain ⟨ad, had, hp⟩ := rdVar_run (P := P) hR hsz ha hv
              obtain ⟨c, hrun, hvr⟩ := hp
              exact ⟨c, by simp [had, hrun, asAddr], hvr⟩
            · simp at hv
          · simp at hx
      obtain ⟨c, hc, hvc⟩ := one
      refine ⟨c :: cs, ?_, c, cs, rfl, hvc, hrel⟩
      rw [List.mapM_cons]
      simp only [Sem.run_bind, hc, Result.andThen_ok, hcs, Sem.run_pure]
  obtain ⟨cs, hcs, hrel⟩ := key fn.results.toList rs vs hr hvs
  have hrun : (fn.results.mapM fun (r : ResultVar) => match r with
        | .tmp t => (pure (ts.getD t undef) : Sem Value)
        | .cell a t => do loadVar t (← asAddr (ts.getD a undef))).run P w = .ok cs.toArray w := by
    rw [Array.mapM_eq_mapM_toList, Sem.run_map, hcs]
    rfl
  have hres : (results fn ts).run P w = .ok (if h : cs.toArray.size = 1 then cs.toArray[0] else .tuple cs.toArray) w := by
    have e1 : results fn ts = (do
      let vs ← fn.results.mapM (fun (r : ResultVar) => match r with
        | .tmp t => (pure (ts.getD t undef) : Sem Value)
        | .cell a t => do loadVar t (← asAddr (ts.getD a undef)))
      pure (if h : vs.size = 1 then vs[0] else .tuple vs)) := rfl
    rw [e1, Sem.run_bind, hrun]
    rfl
  refine ⟨_, hres, ?_⟩
  cases vs with
  | nil => simp only [VRs] at hrel; subst hrel; exact ⟨#[], rfl, rfl⟩
  | cons v vs =>
    obtain ⟨c, r, rfl, hvc, h⟩ := hrel
    cases vs with
    | nil => simp only [VRs] at h; subst h; simpa using hvc
    | cons v2 vs =>
      obtain ⟨c2, r2, rfl, h⟩ := h
      have : ¬ (c :: c2 :: r2).toArray.size = 1 := by simp
      rw [dif_neg this]
      exact ⟨_, rfl, c, _, rfl, hvc, c2, r2, rfl, h⟩

end
end Go.Ab
