/- The abstract machine is sound. -/
import Derived.Test.YtpphdocfglmffaaGreatDoorAbZa
set_option linter.unusedVariables false
set_option linter.unusedSimpArgs false
namespace Go.Ab
open Go.RowKit (Below)

section
variable {P : Program} {A : Tb}

/-- from within a loop -/
def LoopWp (P : Program) (x : Code) (Q : Exit → Act → World → Prop) (a : Act) (w : World) : Prop :=
  ∀ (b : Frame) (k : List Item) (cs : List Frame), ∃ e a' w', Q e a' w' ∧ Arrives P (lone (b.at a (.code x :: .inLoop x :: k)) cs w) b k cs e a' w'

theorem LoopWp.wp {x : Code} {Q : Exit → Act → World → Prop} {a : Act} {w : World} (h : LoopWp P x Q a w) : (Code.loop x).wp P Q a w := by
  intro b k cs
  obtain ⟨e, a', w', hq, harr⟩ := h b k cs
  exact ⟨e, a', w', hq, .of_steps (.one step_loop) harr⟩

theorem loop_unroll {x : Code} {Q : Exit → Act → World → Prop} {a : Act} {w : World} (h : x.wp P (Exit.then (fun a w => LoopWp P x Q a w) Q) a w) : LoopWp P x Q a w := by
  intro b k cs
  obtain ⟨e, a₁, w₁, hq, harr⟩ := h b (.inLoop x :: k) cs
  cases e with
  | normal =>
    obtain ⟨e₂, a₂, w₂, hq₂, harr₂⟩ := hq b k cs
    exact ⟨e₂, a₂, w₂, hq₂, .of_steps (Steps.trans harr (.one step_inLoop)) harr₂⟩
  | exit id => exact ⟨_, a₁, w₁, hq, .pass (x := .inLoop x) rfl (fun _ _ => .inl (by simp)) harr⟩
  | goto l => exact ⟨_, a₁, w₁, hq, .pass (x := .inLoop x) rfl (fun _ _ => .inl (by simp)) harr⟩
  | ret => exact ⟨_, a₁, w₁, hq, .pass (x := .inLoop x) rfl (fun _ _ => .inl (by simp)) harr⟩
  | panic ch => exact ⟨_, a₁, w₁, hq, .pass (x := .inLoop x) rfl (fun _ _ => .inl (by simp)) harr⟩
  | outgrown => exact ⟨_, a₁, w₁, hq, .pass (x := .inLoop x) rfl (fun _ _ => .inl (by simp)) harr⟩

/-- what abstract code came from -/
def From (P : Program) (nt : Nat) (code : Code) : ACode → Prop
  | .skip => code = .skip
  | .ret => code = .ret
  | .exit i => code = .exit i
  | .seq a b => ∃ x y, code = .seq x y ∧ cCode P nt x = some a ∧ cCode P nt y = some b
  | .cond q a b => ∃ c x y, code = .cond c x y ∧ cOpd c = some q ∧ cCode P nt x = some a ∧ cCode P nt y = some b
  | .block i a => ∃ x, code = .block i x ∧ cCode P nt x = some a
  | .loop a => ∃ x, code = .loop x ∧ cCode P nt x = some a
  | .reg l => ∃ id ops, code = .region id ops false ∧ allO (cOper P nt ops) ops.toList = some l
  | .dreg l => ∃ id ops ls, code = .region id ops true ∧ allO (cOper P nt ops) ops.toList = some ls ∧ pairsOk ls ops.toList (Region.before ops).toList = true ∧
      ∃ rest, orderOk ls (Region.before ops).toList 0 [] rest = true ∧ l = withChk ls (Region.before ops).toList [] rest
  | _ => True

theorem from_of {nt : Nat} {code : Code} {c : ACode} (h : cCode P nt code = some c) : From P nt code c := by
  cases code <;> simp only [cCode, Option.some.injEq, Option.bind_eq_some_iff, Option.map_eq_some_iff] at h
  case skip => subst h; rfl
  case region id ops draw =>
    unfold cRegion at h
    simp only [Option.bind_eq_some_iff] at h
    obtain ⟨ls, hls, h⟩ := h
    cases draw with
    | false => simp at h; subst h; exact ⟨id, ops, rfl, hls⟩
    | true =>
      simp only [if_true, Option.some.injEq] at h
      subst h
      unfold cDraw
      dsimp only
      split
      · rename_i hk
        simp only [Bool.and_eq_true] at hk
        exact ⟨id, ops, ls, rfl, hls, hk.1, _, hk.2, rfl⟩
      · trivial
  case seq x y => obtain ⟨a, ha, b, hb, rfl⟩ := h; exact ⟨x, y, rfl, ha, hb⟩
  case cond c x y => obtain ⟨q, hq, a, ha, b, hb, rfl⟩ := h; exact ⟨c, x, y, rfl, hq, ha, hb⟩
  case block i x => obtain ⟨a, ha, rfl⟩ := h; exact ⟨x, rfl, ha⟩
  case loop x => obtain ⟨a, ha, rfl⟩ := h; exact ⟨x, rfl, ha⟩
  case exit i => subst h; rfl
  case ret => subst h; rfl
  case rangeFunc => obtain ⟨_, _, _, _, _, _, rfl⟩ := h; trivial
  all_goals (subst h; trivial)

theorem After.trans {nt : Nat} {ι κ : Inj} {h k : Hp} {w u : World} {ds : List Deferred} {e' : Env} {h' : Hp} {a' : Act} {w' : World} (hE : Ext ι h w κ k u) (k2 : After nt κ k u ds e' h' a' w') : After nt ι h w ds e' h' a' w' := by
  obtain ⟨ν, a1, a2, a3, a4, a5⟩ := k2
  exact ⟨ν, a1, a2, a3, hE.trans a4, a5⟩

/-- the motive, with loops from within -/
def Sound' (P : Program) : Wk → Hp → (Rs → Hp → Prop) → Prop
  | .code c e, h, Q => Sound P (.code c e) h Q ∧ ∀ x, c = .loop x → ∀ nt code ι a w, cCode P nt code = some x → nt ≤ a.tmps.size → ER ι e a.tmps → Rel ι h w →
      LoopWp P code (fun x a' w' => ∃ y e' h', x = exOf y ∧ Q (.ex y e') h' ∧ After nt ι h w a.defers e' h' a' w') a w
  | k, h, Q => Sound P k h Q

theorem args_rel {ι : Inj} {e : Env} {a : Act} (hE : ER ι e a.tmps) {xs : Array Operand} {l : List Opd} (h : allO cOpd xs.toList = some l) : VRs ι (l.map (Opd.val e)) (xs.map a.eval).toList := by
  obtain ⟨h1, h2⟩ := allO_get h
  refine VRs.mk (by simp; simpa using h1.symm) fun i v c hv hc => ?_
  simp only [List.getElem?_map, Option.map_eq_some_iff] at hv
  obtain ⟨y, hy, rfl⟩ := hv
  rw [Array.toList_map, List.getElem?_map, Option.map_eq_some_iff] at hc
  obtain ⟨x, hx, rfl⟩ := hc
  exact opd_rel hE (h2 i x y hx hy)

theorem call_run {o : Oper} {f : FuncId} {fn : Func} {y : Operand} {args : Array Operand} {ts : Array TypeId} {ρ : Operand → Value} {w : World} {as bs : Array Value} (ho : o.op = .call { callee := .value y, args := args, argTypes := ts }) (hf : P.funcs[f]? = some fn) (hρ : ρ y = .func (.func f) as bs)
    (h1 : (fn.name == "runtime.NumGoroutine") = false) (h2 : fn.body.isSome = true) : (execOp ρ o).run P w = .ok (.enter f (as ++ args.map ρ ++ bs)) w := by
  have h3 : fn.body.isNone = false := by cases hb : fn.body <;> simp_all
  unfold execOp; rw [ho]
  simp only [resolve, hρ, Deferred.ofValue, Sem.run_bind, Sem.run_pure, Result.andThen_ok, invoke, callFunc, run_program, hf]
  simp [h1, h3]

theorem cFunc_inv {F : Func} {fn : AFn} (h : cFunc P F = some fn) : (F.name == "runtime.NumGoroutine") = false ∧ ∃ c, F.body = some c ∧ cCode P F.ntmps c = some fn.code ∧ allO (cRes P F.ntmps) F.results.toList = some fn.res := by
  unfold cFunc at h
  split at h
  · simp at h
  · rename_i hn
    simp only [Option.bind_eq_some_iff, Option.map_eq_some_iff] at h
    obtain ⟨c, hc, c', hc', r, hr, rfl⟩ := h
    exact ⟨by simpa using hn, c, hc, hc', hr⟩

theorem wp_loop_from {x : Code} {Q : Exit → Act → World → Prop} {a : Act} {w : World} (h : x.wp P (Exit.then (fun a w => LoopWp P x Q a w) Q) a w) : (Code.loop x).wp P Q a w := (loop_unroll h).wp

/-- what is known from elsewhere is so -/
def OrcOk (P : Program) (O : Orc) : Prop := ∀ f args h R, O f args h R → Sound P (.call f args) h fun r k => ∃ v, r = .val v ∧ R v k

theorem OrcOk.none (P : Program) : OrcOk P Orc.none := fun _ _ _ _ h => h.elim

theorem sound (hA : ∀ f fn, A.fn f = some fn → ∃ F, P.funcs[f]? = some F ∧ cFunc P F = some fn) (hO : OrcOk P A.orc) (hm : P.follows .mixedOrders = true) {k : Wk} {h : Hp} {Q : Rs → Hp → Prop} (H : WP A k h Q) : Sound' P k h Q := by
  induction H with
  | skip hq =>
    refine ⟨?_, fun x hx => by cases hx⟩
    intro nt code ι a w hc hn hE hR
    have := from_of hc; simp only [From] at this; subst this
    exact wp_skip ⟨.nrm, _, _, rfl, hq, After.refl hn hE hR⟩
  | ret hq =>
    refine ⟨?_, fun x hx => by cases hx⟩
    intro nt code ι a w hc hn hE hR
    have := from_of hc; simp only [From] at this; subst this
    exact wp_ret ⟨.ret, _, _, rfl, hq, After.refl hn hE hR⟩
  | exit hq =>
    refine ⟨?_, fun x hx => by cases hx⟩
    intro nt code ι a w hc hn hE hR
    have := from_of hc; simp only [From] at this; subst this
    exact wp_exit ⟨.exit _, _, _, rfl, hq, After.refl hn hE hR⟩
  | seq k1 k2 k3 ih1 ih2 =>
    refine ⟨?_, fun x hx => by cases hx⟩
    intro nt code ι a w hc hn hE hR
    obtain ⟨x, y, rfl, hx, hy⟩ := from_of hc
    refine wp_seq (wp_mono (ih1.1 nt x ι a w hx hn hE hR) ?_)
    rintro _ a1 w1 ⟨r, e1, h1, rfl, hq, κ, b1, b2, b3, b4, b5⟩
    cases r with
    | nrm =>
      refine wp_mono ((ih2 e1 h1 hq).1 nt y κ a1 w1 hy b1 b2 b3) ?_
      rintro _ a2 w2 ⟨r2, e2, h2, rfl, hq2, haf⟩
      rw [b5] at haf
      exact ⟨r2, e2, h2, rfl, hq2, haf.trans b4⟩
    | exit i => exact ⟨.exit i, e1, h1, rfl, k3 _ _ _ (by simp) hq, κ, b1, b2, b3, b4, b5⟩
    | ret => exact ⟨.ret, e1, h1, rfl, k3 _ _ _ (by simp) hq, κ, b1, b2, b3, b4, b5⟩
  | @cond c x y e h b Q hb k1 ih1 =>
    refine ⟨?_, fun x hx => by cases hx⟩
    intro nt code ι a w hc hn hE hR
    obtain ⟨q, x', y', rfl, hq, hx, hy⟩ := from_of hc
    have hv := opd_rel hE hq
    rw [hb] at hv
    simp only [VR] at hv
    refine wp_cond hv (ih1.1 nt _ ι a w ?_ hn hE hR)
    cases b
    · exact hy
    · exact hx
  | block k1 k2 ih1 =>
    refine ⟨?_, fun x hx => by cases hx⟩
    intro nt code ι a w hc hn hE hR
    obtain ⟨x, rfl, hx⟩ := from_of hc
    refine wp_block (wp_mono (ih1.1 nt x ι a w hx hn hE hR) ?_)
    rintro _ a1 w1 ⟨r, e1, h1, rfl, hq, haf⟩
    have := k2 _ _ _ hq
    cases r with
    | nrm => exact ⟨.nrm, e1, h1, rfl, this, haf⟩
    | exit i =>
      simp only [exOf, Exit.inBlock]
      simp only [outOf] at this
      split
      · rename_i hi
        rw [if_pos hi] at this
        exact ⟨.nrm, e1, h1, rfl, this, haf⟩
      · rename_i hi
        rw [if_neg hi] at this
        exact ⟨.exit i, e1, h1, rfl, this, haf⟩
    | ret => exact ⟨.ret, e1, h1, rfl, this, haf⟩
  | @loop c e h R Q k1 k2 k3 ih1 ih2 =>
    have key : ∀ nt code ι a w, cCode P nt code = some c → nt ≤ a.tmps.size → ER ι e a.tmps → Rel ι h w →
      LoopWp P code (fun x a' w' => ∃ y e' h', x = exOf y ∧ Q (.ex y e') h' ∧ After nt ι h w a.defers e' h' a' w') a w := by
      intro nt x ι a w hx hn hE hR
      refine loop_unroll (wp_mono (ih1.1 nt x ι a w hx hn hE hR) ?_)
      rintro _ a1 w1 ⟨r, e1, h1, rfl, hq, κ, b1, b2, b3, b4, b5⟩
      cases r with
      | nrm =>
        have := (ih2 e1 h1 hq).2 c rfl nt x κ a1 w1 hx b1 b2 b3
        intro b k cs
        obtain ⟨ee, a2, w2, ⟨r2, e2, h2, rfl, hq2, haf⟩, harr⟩ := this b k cs
        rw [b5] at haf
        exact ⟨_, a2, w2, ⟨r2, e2, h2, rfl, hq2, haf.trans b4⟩, harr⟩
      | exit i => exact ⟨.exit i, e1, h1, rfl, k3 _ _ _ (by simp) hq, κ, b1, b2, b3, b4, b5⟩
      | ret => exact ⟨.ret, e1, h1, rfl, k3 _ _ _ (by simp) hq, κ, b1, b2, b3, b4, b5⟩
    refine ⟨?_, fun x hx => by cases hx; exact key⟩
    intro nt code ι a w hc hn hE hR
    obtain ⟨x, rfl, hx⟩ := from_of hc
    exact (key nt x ι a w hx hn hE hR).wp
  | reg k1 k2 ih1 =>
    refine ⟨?_, fun x hx => by cases hx⟩
    intro nt code ι a w hc hn hE hR
    obtain ⟨id, ops, rfl, hl⟩ := from_of hc
    refine wp_region (ih1 nt ops _ ι a w _ ?_ hn hE hR ?_)
    · have := matches_of ops.toList 0 _ (by simp) hl
      rwa [List.range_eq_range', ← Array.length_toList]
    · intro e' h' a' w' hq haf
      exact ⟨.nrm, e', h', rfl, k2 _ _ hq, haf⟩
  | @dreg l e h R Q k1 k2 ih1 =>
    refine ⟨?_, fun x hx => by cases hx⟩
    intro nt code ι a w hc hn hE hR
    obtain ⟨id, ops, ls, rfl, hls, hp, rest, hor, rfl⟩ := from_of hc
    have S := static_of hls hp
    refine wp_region_any hm (ih1 nt ops ls _ 0 [] rest S hor rfl (by simp) ι h w a.defers (fun _ => 0) _ ?_ _ _ ι e a _ (List.range ls.length) ?_ (by simp [S.len]) ?_)
    · intro e' h' a' w' hq haf
      exact ⟨.nrm, e', h', rfl, k2 _ _ hq, haf⟩
    · refine ⟨by simp [S.len], by simp, ?_, ?_, hR.congr rfl, hn, rfl, hE, Ext.drew ι h w, by simp, by simp, by simp, by simp⟩
      · intro i hi
        rw [Array.getD_eq_getD_getElem?] at hi
        cases hh : (Array.replicate ops.size false)[i]? with
        | none => rw [hh] at hi; simp at hi
        | some b =>
          obtain ⟨_, hb⟩ := Array.getElem?_eq_some_iff.1 hh
          rw [Array.getElem_replicate] at hb
          rw [hh, ← hb] at hi; simp at hi
      · intro i hi
        rw [Array.getD_eq_getD_getElem?] at hi
        cases hh : (Array.replicate ops.size false)[i]? with
        | none => rw [hh] at hi; simp at hi
        | some b =>
          obtain ⟨_, hb⟩ := Array.getElem?_eq_some_iff.1 hh
          rw [Array.getElem_replicate] at hb
          rw [hh, ← hb] at hi; simp at hi
    · intro i hi _
      exact List.mem_range.2 hi
  | nil hq =>
    intro nt ops is ι a w Qc hM hn hE hR hK
    cases is with
    | nil => exact hK _ _ _ _ hq (After.refl hn hE hR)
    | cons i is => simp [Matches] at hM
  | @cons o l e h R Q hw k1 k2 ih1 ih2 =>
    intro nt ops is ι a w Qc hM hn hE hR hK
    cases is with
    | nil => simp [Matches] at hM
    | cons i is =>
      obtain ⟨⟨o', ho, hc⟩, hM⟩ := hM
      obtain ⟨c1, c2, c3, c4⟩ := cOper_inv hc
      simp only [wpOps, ho, wanted_rel hE c3, hw, if_true]
      refine .inl (ih1 o' ι a w e _ _ (cOper_op hc (not_bad k1)) (fun _ _ => rfl) hE hR ?_)
      intro v h' κ c w' hq hvr hR' hE'
      refine ih2 v h' hq nt ops is κ _ w' Qc hM (by rw [put_size]; exact hn) (by rw [c1]; exact er_put (hE.mono hE'.le) c2 hn hvr) hR' ?_
      intro e2 h2 a2 w2 hq2 haf
      rw [put_defers] at haf
      exact hK _ _ _ _ hq2 (haf.trans hE')
  | @drop o l e h Q hw k1 ih1 =>
    intro nt ops is ι a w Qc hM hn hE hR hK
    cases is with
    | nil => simp [Matches] at hM
    | cons i is =>
      obtain ⟨⟨o', ho, hc⟩, hM⟩ := hM
      obtain ⟨c1, c2, c3, c4⟩ := cOper_inv hc
      simp only [wpOps, ho, wanted_rel hE c3, hw, Bool.false_eq_true, if_false]
      refine ih1 nt ops is ι _ w Qc hM (by rw [put_size]; exact hn) (by rw [c1]; exact er_put hE c2 hn und_rel) hR ?_
      intro e2 h2 a2 w2 hq2 haf
      rw [put_defers] at haf
      exact hK _ _ _ _ hq2 haf
  | @dnil e h Q hq =>
    intro nt ops ls bits done pre rest S hor hl hdone ι0 h0 w0 ds sl Qc hK
    cases rest with
    | cons i rest => simp [withChk] at hl
    | nil =>
    refine draw_go S ?_ ?_
    · intro fuel listed ι eC a w u I _ _ j hj hjp
      obtain ⟨hlt, _⟩ := ready_spec S I hj
      rcases orderOk_all _ _ _ hor j hlt with k | k
      · exact absurd ((hdone j hlt).1 k) hjp
      · cases k
    · intro listed ι eC a w I hall
      exact hK e h a w hq ⟨ι, I.nt, I.over hall, I.rel, I.ext, I.ds⟩
  | @dcons o chk l e h R Q hw k1 kst k2 ih1 ih2 =>
    intro nt ops ls bits done pre rest S hor hl hdone ι0 h0 w0 ds sl Qc hK
    cases rest with
    | nil => simp [withChk] at hl
    | cons i rest =>
    simp only [withChk, List.cons.injEq, Prod.mk.injEq] at hl
    obtain ⟨⟨rfl, hchk⟩, rfl⟩ := hl
    obtain ⟨o1, o2, o3, o4, o5⟩ := orderOk_step hor
    have hip : i ∉ pre := fun hh => by rw [(hdone i o1).2 hh] at o2; simp at o2
    have hdone' : ∀ j, j < ls.length → ((done ||| 2 ^ i).testBit j = true ↔ j ∈ i :: pre) := by
      intro j hj
      rw [Nat.testBit_or, Nat.testBit_two_pow, List.mem_cons]
      simp only [Bool.or_eq_true, decide_eq_true_eq, hdone j hj]
      constructor
      · rintro (k | k); exact .inr k; exact .inl k.symm
      · rintro (k | k); exact .inr k.symm; exact .inl k
    obtain ⟨oo, hoo, hcc⟩ := S.at' i o1
    obtain ⟨c1, c2, c3, c4⟩ := cOper_inv hcc
    by_cases hea : early ls bits i = true
    · -- the one order goes on
      have hd : ∀ d ∈ (ls.getD i default).dsts, ∀ r ∈ pre, d ∉ (ls.getD r default).looks ∧ d ∉ (ls.getD r default).dsts := by
        intro d hd r hr
        rcases o3 d hd r hr with k | k
        · exact k
        · rw [hea] at k; simp at k
      have hself : (ls.getD i default).op.calm = true ∧ ∀ d ∈ (ls.getD i default).dsts, d ∉ (ls.getD i default).looks := by
        have := hea
        simp only [early, Bool.and_eq_true, List.all_eq_true, Bool.not_eq_true'] at this
        refine ⟨this.1, fun d hdd => ?_⟩
        have := (this.2 d hdd).1
        simpa using this
      have hput : ∀ v, ∀ t ∈ (ls.getD i default).looks, e t = e.put (ls.getD i default).dst v t := by
        intro v t ht
        rw [putE_ne fun hh => hself.2 t hh ht]
      have hw' : ∀ v, wanted (e.put (ls.getD i default).dst v) (ls.getD i default).guard = true := fun v => by rw [← looks_wanted (hput v)]; exact hw
      intro fuel listed ι eC a w u I hu hun
      cases hop : (ls.getD i default).op with
      | p q =>
        rw [hop] at k1
        obtain ⟨v, hv, hr⟩ := k1.inv_p
        refine ih2 v h hr nt ops ls bits _ (i :: pre) rest S o5 rfl hdone' ι0 h0 w0 ds _ Qc hK fuel listed ι eC a w u (I.skip (s := 0) o1 hip hea hd (fun _ _ x => x) (Nat.le_refl _) I.rel (Ext.refl _ _ _) ?_ ?_) hu hun
        · refine ⟨fun hf => by rw [hw' v] at hf; simp at hf, fun _ => .inl ⟨q, v, hop, ?_, fun d hdd => putE_eq hdd⟩⟩
          rw [← P1.congr fun t ht => hput v t (looks_ts (by rw [hop]; exact ht))]; exact hv
        · rintro ⟨_, q', hq'⟩; rw [hop] at hq'; simp at hq'
      | r q =>
        rw [hop] at k1
        obtain ⟨v, hv, hr⟩ := k1.inv_r
        refine ih2 v h hr nt ops ls bits _ (i :: pre) rest S o5 rfl hdone' ι0 h0 w0 ds _ Qc hK fuel listed ι eC a w u (I.skip (s := 0) o1 hip hea hd (fun _ _ x => x) (Nat.le_refl _) I.rel (Ext.refl _ _ _) ?_ ?_) hu hun
        · refine ⟨fun hf => by rw [hw' v] at hf; simp at hf, fun _ => .inr (.inl ⟨q, v, hop, ?_, fun d hdd => putE_eq hdd⟩)⟩
          rw [← R1.congr fun t ht => hput v t (looks_ts (by rw [hop]; exact ht))]; exact hv
        · rintro ⟨_, q', hq'⟩; rw [hop] at hq'; simp at hq'
      | n q =>
        rw [hop] at k1
        obtain ⟨x, hv, hr⟩ := k1.inv_n
        refine ih2 _ _ hr nt ops ls bits _ (i :: pre) rest S o5 rfl hdone' ι0 h0 w0 ds _ Qc hK fuel listed ι eC a w u (I.skip (s := h.nx) o1 hip hea hd (Obs.le_new I.rel _) (by simp [Hp.new]) (I.rel.grow _) (Ext.grow I.rel _) ?_ ?_) hu hun
        · refine ⟨fun hf => by rw [hw' _] at hf; simp at hf, fun _ => .inr (.inr ⟨q, x, hop, ?_, by simp [Hp.new], I.ext.nx, by simp [Hp.new], I.rel.free, fun d hdd => putE_eq hdd⟩)⟩
          rw [← N1.congr fun t ht => hput _ t (looks_ts (by rw [hop]; exact ht))]; exact hv
        · intro _; exact Nat.le_refl _
      | e q => rw [hop] at hself; simp [A1.calm] at hself
      | call f args => rw [hop] at hself; simp [A1.calm] at hself
      | callv f args => rw [hop] at hself; simp [A1.calm] at hself
      | bad => rw [hop] at hself; simp [A1.calm] at hself
    · refine draw_go S ?_ ?_
      · intro fuel listed ι eC a w u I hu hun j hj hjp
        obtain ⟨hlt, hf, hb, o', ho', hc'⟩ := ready_spec S I hj
        have hji : j = i := by
          rcases orderOk_all _ _ _ hor j hlt with k | k
          · exact absurd ((hdone j hlt).1 k) hjp
          · rcases List.mem_cons.1 k with k | k
            · exact k
            · exfalso
              have hno := (o4.resolve_left hea) j k
              rw [within_of fun b hbb => ?_] at hno
              · simp at hno
              · have hbl := I.sub b (hb b hbb)
                exact (hdone b (I.plt b hbl)).2 hbl
        subst hji
        rw [hoo] at ho'; simp at ho'; subst ho'
        have hl := looks_agree S I hlt hb
        have hwC : wanted eC (ls.getD j default).guard = true := by rw [looks_wanted hl]; exact hw
        unfold wpOp
        simp only [hoo, wanted_rel I.er c3, hwC, if_true]
        refine .inl (ih1 oo ι a w eC _ _ (cOper_op hcc (not_bad k1)) (fun t ht => hl t (looks_ts ht)) I.er I.rel ?_)
        intro v h' κ c w' hq hvr hR' hE'
        have I' := I.both (c := c) o1 hip hb (fun d hd r hr => (o3 d hd r hr).imp id (·.2)) hE' hR' hvr (by rw [c1]; exact c2) (v := v) (h' := h') (by
          intro r hr _ hre hnb
          refine kst v h' hq _ ?_
          rw [hchk, if_neg hea]
          exact List.mem_map.2 ⟨r, by simp only [List.mem_filter, Bool.and_eq_true, Bool.not_eq_true']; exact ⟨hr, hre, hnb⟩, rfl⟩)
        rw [← c1]
        have hju := hun j hlt hf
        refine ih2 v h' hq nt ops ls bits _ (j :: pre) rest S o5 rfl hdone' ι0 h0 w0 ds sl Qc hK fuel _ κ _ _ w' (u.erase j) I' (by rw [List.length_erase_of_mem hju]; omega) ?_
        intro i hi hif
        rw [set_true (by rw [I.size]; exact hlt)] at hif
        split at hif
        · simp at hif
        · rename_i hne; exact (List.mem_erase_of_ne hne).2 (hun i hi hif)
      · intro listed ι eC a w I hall
        exact absurd (I.sub i (hall i o1)) hip
  | @ddrop o chk l e h Q hw k1 ih1 =>
    intro nt ops ls bits done pre rest S hor hl hdone ι0 h0 w0 ds sl Qc hK
    cases rest with
    | nil => simp [withChk] at hl
    | cons i rest =>
    simp only [withChk, List.cons.injEq, Prod.mk.injEq] at hl
    obtain ⟨⟨rfl, hchk⟩, rfl⟩ := hl
    obtain ⟨o1, o2, o3, o4, o5⟩ := orderOk_step hor
    have hip : i ∉ pre := fun hh => by rw [(hdone i o1).2 hh] at o2; simp at o2
    have hdone' : ∀ j, j < ls.length → ((done ||| 2 ^ i).testBit j = true ↔ j ∈ i :: pre) := by
      intro j hj
      rw [Nat.testBit_or, Nat.testBit_two_pow, List.mem_cons]
      simp only [Bool.or_eq_true, decide_eq_true_eq, hdone j hj]
      constructor
      · rintro (k | k); exact .inr k; exact .inl k.symm
      · rintro (k | k); exact .inr k.symm; exact .inl k
    obtain ⟨oo, hoo, hcc⟩ := S.at' i o1
    obtain ⟨c1, c2, c3, c4⟩ := cOper_inv hcc
    by_cases hea : early ls bits i = true
    · have hd : ∀ d ∈ (ls.getD i default).dsts, ∀ r ∈ pre, d ∉ (ls.getD r default).looks ∧ d ∉ (ls.getD r default).dsts := by
        intro d hd r hr
        rcases o3 d hd r hr with k | k
        · exact k
        · rw [hea] at k; simp at k
      have hself : ∀ d ∈ (ls.getD i default).dsts, d ∉ (ls.getD i default).looks := by
        have := hea
        simp only [early, Bool.and_eq_true, List.all_eq_true, Bool.not_eq_true'] at this
        intro d hdd
        have := (this.2 d hdd).1
        simpa using this
      have hput : ∀ t ∈ (ls.getD i default).looks, e t = e.put (ls.getD i default).dst und t := by
        intro t ht
        rw [putE_ne fun hh => hself t hh ht]
      have hw' : wanted (e.put (ls.getD i default).dst und) (ls.getD i default).guard = false := by rw [← looks_wanted hput]; exact hw
      intro fuel listed ι eC a w u I hu hun
      refine ih1 nt ops ls bits _ (i :: pre) rest S o5 rfl hdone' ι0 h0 w0 ds _ Qc hK fuel listed ι eC a w u (I.skip (s := 0) o1 hip hea hd (fun _ _ x => x) (Nat.le_refl _) I.rel (Ext.refl _ _ _) ?_ ?_) hu hun
      · exact ⟨fun _ d hdd => putE_eq hdd, fun ht => by rw [hw'] at ht; simp at ht⟩
      · rintro ⟨ht, _⟩; rw [hw'] at ht; simp at ht
    · refine draw_go S ?_ ?_
      · intro fuel listed ι eC a w u I hu hun j hj hjp
        obtain ⟨hlt, hf, hb, o', ho', hc'⟩ := ready_spec S I hj
        have hji : j = i := by
          rcases orderOk_all _ _ _ hor j hlt with k | k
          · exact absurd ((hdone j hlt).1 k) hjp
          · rcases List.mem_cons.1 k with k | k
            · exact k
            · exfalso
              have hno := (o4.resolve_left hea) j k
              rw [within_of fun b hbb => ?_] at hno
              · simp at hno
              · have hbl := I.sub b (hb b hbb)
                exact (hdone b (I.plt b hbl)).2 hbl
        subst hji
        have hl := looks_agree S I hlt hb
        have hwC : wanted eC (ls.getD j default).guard = false := by rw [looks_wanted hl]; exact hw
        unfold wpOp
        simp only [hoo, wanted_rel I.er c3, hwC, Bool.false_eq_true, if_false]
        have hlate : ∀ r ∈ pre, listed.getD r false = false → (ls.getD r default).op.reads = true → (bits.getD j 0).testBit r = false → Still (ls.getD r default) (e.put (ls.getD j default).dst und) h.obj := by
          intro r hr hru hre hnb
          have hdr : ∀ d ∈ (ls.getD j default).dsts, d ∉ (ls.getD r default).looks ∧ d ∉ (ls.getD r default).dsts := by
            intro d hd
            rcases o3 d hd r hr with k | k
            · exact k
            · rw [hnb] at k; simp at k
          have := (I.fact r hr hru).keep (e' := e.put (ls.getD j default).dst und) (h' := h) (fun t ht => by rw [putE_ne fun hh => (hdr t hh).1 ht]) (fun t ht => by rw [putE_ne fun hh => (hdr t hh).2 ht]) (fun _ _ x => x) (Nat.le_refl _)
          intro hwr q hq
          rcases this.2 hwr with ⟨q', _, b, _⟩ | ⟨q', v, b, b1, b2⟩ | ⟨q', x, b, _⟩
          · rw [hq] at b; simp at b
          · rw [hq] at b; simp at b; subst b; exact ⟨v, b1, b2⟩
          · rw [hq] at b; simp at b
        have I' := I.both (c := undef) o1 hip hb (fun d hd r hr => (o3 d hd r hr).imp id (·.2)) (Ext.refl _ _ _) I.rel und_rel (by rw [c1]; exact c2) hlate
        rw [← c1]
        have hju := hun j hlt hf
        refine ih1 nt ops ls bits _ (j :: pre) rest S o5 rfl hdone' ι0 h0 w0 ds sl Qc hK fuel _ ι _ _ w (u.erase j) I' (by rw [List.length_erase_of_mem hju]; omega) ?_
        intro i hi hif
        rw [set_true (by rw [I.size]; exact hlt)] at hif
        split at hif
        · simp at hif
        · rename_i hne; exact (List.mem_erase_of_ne hne).2 (hun i hi hif)
      · intro listed ι eC a w I hall
        exact absurd (I.sub i (hall i o1)) hip
  | p hv hq =>
    intro o ι a w eC K Qc hc hag hE hR hK
    rw [← P1.congr (e := eC) (fun t ht => hag t ht)] at hv
    obtain ⟨c, hrun, hvr⟩ := p1_sound (P := P) (w := w) (fun _ _ hxy => opd_rel hE hxy) hc hv
    unfold Oper.wp
    rw [hrun, Oper.upon_value]
    exact hK _ _ ι _ _ hq hvr hR (Ext.refl _ _ _)
  | r hv hq =>
    intro o ι a w eC K Qc hc hag hE hR hK
    rw [← R1.congr (e := eC) (fun t ht => hag t ht)] at hv
    obtain ⟨c, hrun, hvr⟩ := r1_sound (P := P) (w := w) hR (fun _ _ hxy => opd_rel hE hxy) (fun _ => rfl) hc hv
    unfold Oper.wp
    rw [hrun, Oper.upon_value]
    exact hK _ _ ι _ _ hq hvr hR (Ext.refl _ _ _)
  | n hv hq =>
    intro o ι a w eC K Qc hc hag hE hR hK
    rw [← N1.congr (e := eC) (fun t ht => hag t ht)] at hv
    obtain ⟨nx, c, u, κ, hrun, hnx, hvr, hR', hE'⟩ := n1_sound (P := P) (w := w) hR (fun _ _ hxy => opd_rel hE hxy) (fun _ => rfl) hc hv
    unfold Oper.wp
    rw [hrun]
    rcases hnx with rfl | ⟨rfl, rfl⟩
    · rw [Oper.upon_value]; exact hK _ _ κ _ _ hq hvr hR' hE'
    · rw [Oper.upon_skip]; exact hK _ _ κ _ _ hq hvr hR' hE'
  | e hv =>
    intro o ι a w eC K Qc hc hag hE hR hK
    rw [← E1.congr (e := eC) (fun t ht => hag t ht)] at hv
    obtain ⟨v, k, hq, nx, c, u, κ, hrun, hnx, hvr, hR', hE'⟩ := e1_sound (P := P) (w := w) hR (fun _ _ hxy => opd_rel hE hxy) (fun _ => rfl) hc hv
    unfold Oper.wp
    rw [hrun]
    rcases hnx with rfl | ⟨rfl, rfl⟩
    · rw [Oper.upon_value]; exact hK _ _ κ _ _ hq hvr hR' hE'
    · rw [Oper.upon_skip]; exact hK _ _ κ _ _ hq hvr hR' hE'
  | @call f l e h Q k1 ih1 =>
    intro o ι a w eC K Qc hc hag hE hR hK
    obtain ⟨args, ts, fn, ho, hf, h1, h2, hl⟩ := cOp_call hc
    have hrun := call_run (P := P) (w := w) (ρ := a.eval) (as := #[]) (bs := #[]) ho hf rfl h1 h2
    unfold Oper.wp
    rw [hrun, Oper.upon_enter]
    have hargs := args_rel hE hl
    rw [tsL_congr (e := eC) (e' := e) (fun t ht => hag t ht)] at hargs
    refine Calls.mono (ih1 ι _ w (by simpa using hargs) hR) ?_
    rintro en w' ⟨v, h', κ, c, hq, rfl, hvr, hR', hE'⟩
    exact hK _ _ κ _ _ hq hvr hR' hE'
  | @callv x l e h f aa bb Q hx k1 ih1 =>
    intro o ι a w eC K Qc hc hag hE hR hK
    obtain ⟨y, args, ts, ho, hy, hl⟩ := cOp_callv hc
    obtain ⟨fn, hfn⟩ := k1.inv_call
    obtain ⟨F, hF, hcF⟩ := hA _ _ hfn
    obtain ⟨h1, c, h2, _⟩ := cFunc_inv hcF
    have hxr := opd_rel hE hy
    rw [Opd.congr (e := eC) (e' := e) (fun t ht => hag t (List.mem_append_left _ ht)), hx] at hxr
    obtain ⟨as, bs, hval, has, hbs⟩ := hxr
    have hrun := call_run (P := P) (w := w) (ρ := a.eval) ho hF hval h1 (by rw [h2]; rfl)
    unfold Oper.wp
    rw [hrun, Oper.upon_enter]
    have hargs := args_rel hE hl
    rw [tsL_congr (e := eC) (e' := e) (fun t ht => hag t (List.mem_append_right _ ht))] at hargs
    refine Calls.mono (ih1 ι _ w (by simpa using (has.append hargs).append hbs) hR) ?_
    rintro en w' ⟨v, h', κ, c, hq, rfl, hvr, hR', hE'⟩
    exact hK _ _ κ _ _ hq hvr hR' hE'
  | @orc f args fn h R Q hfn ho k2 =>
    intro ι cargs w hv hR
    refine Calls.mono (hO f args h R ho ι cargs w hv hR) ?_
    rintro en w' ⟨v, h', κ, c, ⟨v', hv', hr⟩, rfl, hvr, hR', hE'⟩
    simp only [Rs.val.injEq] at hv'; subst hv'
    exact ⟨_, _, κ, c, k2 _ _ hr, rfl, hvr, hR', hE'⟩
  | @enter f args fn h R Q hfn k1 k2 ih1 =>
    intro ι cargs w hv hR
    obtain ⟨F, hF, hcF⟩ := hA _ _ hfn
    obtain ⟨h1, c, h2, h3, h4⟩ := cFunc_inv hcF
    refine calls_of_wp hF h2 (wp_mono (ih1.1 F.ntmps c ι _ w h3 (by simp; omega) (er_args hv _) hR) ?_)
    rintro _ a1 w1 ⟨r, e1, h1', rfl, hq, κ, b1, b2, b3, b4, b5⟩
    obtain ⟨hne, v, hv1, hq1⟩ := k2 _ _ _ hq
    obtain ⟨c', hres, hvr⟩ := results_run (P := P) b3 b2 h4 hv1
    cases r with
    | nrm => exact ⟨b5, c', hres, v, h1', κ, c', hq1, rfl, hvr, b3, b4⟩
    | exit i => exact absurd rfl (hne i)
    | ret => exact ⟨b5, c', hres, v, h1', κ, c', hq1, rfl, hvr, b3, b4⟩

end
end Go.Ab
