/- MergeChooses answers true at all spans, rows and budgets, where what it reads is of bulk at most 1048576: the row and its card. -/
import Derived.Test.YtpphdocfglmffaaGreatDoorMcOrc
import Derived.Test.YtpphdocfglmffaaGreatDoorCards
import Derived.Test.YtpphdocfglmffaaGreatDoorTie
import Derived.WalkKit
import Derived.ProofKit
import Derived.OpenShut
import Derived.Carry
import Derived.Deep.DeepHandedRow
import Derived.Lib.LaidTab
set_option linter.unusedVariables false
set_option linter.unusedSimpArgs false
namespace Go.Proofs.YtpphdocfglmffaaGreatDoor.mergeChooses
open Go.ChangeShapes Go.WideShapes Go.ChangeAt Go.RowKit
open Go.Ab Go.Ab.Fs
set_option linter.unusedVariables false
set_option linter.unusedSimpArgs false

/- THE BULK -/
theorem one_le {H : Type} (d : DataW H) : 1 ≤ Rows.uptoBulk d := by
  cases d with
  | lit l => cases l <;> simp [Rows.uptoBulk]
  | nil => simp [Rows.uptoBulk]
  | ptr d => simp [Rows.uptoBulk]
  | slice elems spare => simp [Rows.uptoBulk]
  | agg parts => simp [Rows.uptoBulk]
  | iface t d => simp [Rows.uptoBulk]
  | map entries => simp [Rows.uptoBulk]
  | held h => simp [Rows.uptoBulk]
theorem part_le {H : Type} {d : DataW H} {l : List (DataW H)} (h : d ∈ l) : Rows.uptoBulk d ≤ Rows.uptoBulkAll l := by
  induction l with
  | nil => cases h
  | cons x r ih =>
    simp only [Rows.uptoBulkAll]
    cases List.mem_cons.1 h with
    | inl e => subst e; omega
    | inr e => have := ih e; omega
theorem length_le {H : Type} (l : List (DataW H)) : l.length ≤ Rows.uptoBulkAll l := by
  induction l with
  | nil => simp [Rows.uptoBulkAll]
  | cons x r ih => have := one_le x; simp only [Rows.uptoBulkAll, List.length_cons]; omega
theorem meas {H : Type} : Meas (Rows.uptoBulk (H := H)) where
  slice es sp := by have := length_le es; simp only [Rows.uptoBulk]; omega
  elem es sp x hx := by have := part_le hx; simp only [Rows.uptoBulk]; omega
  part ps x hx := by have := part_le hx; simp only [Rows.uptoBulk]; omega

/- THE SHAPES -/
def shB : Sh := .slc (.int .u8)
def shI : Sh := .slc (.int .i64)
def shBd : Sh := .slc (.cs (.int .i64) (.cs shB (.cs shB .nl)))

theorem dr_bytes {H : Type} {O : Obs} {v : V} {d : DataW H} (h : DR O shB [v] d) : ∃ xs : List UInt8, Byts O v xs ∧ xs.length ≤ Rows.uptoBulk d := by
  rcases h with ⟨rfl, hv⟩ | ⟨a, rows, elems, spare, rfl, hv, hs, hl, he⟩
  · simp only [List.cons.injEq, and_true] at hv; subst hv
    exact ⟨[], SlR.nil _ _ _, by simp⟩
  · simp only [List.cons.injEq, and_true] at hv; subst hv
    have hsl := meas.slice elems spare
    refine ⟨elems.map fun x => match x with | .lit (.int _ n) => UInt8.ofNat n.toNat | _ => 0, ⟨rows, hs, by simp [hl], ?_⟩, by simpa using hsl⟩
    intro i x r hx hr
    simp only [List.getElem?_map, Option.map_eq_some_iff] at hx
    obtain ⟨y, hy, rfl⟩ := hx
    obtain ⟨n, rfl, hw, rfl⟩ := he i r y hr hy
    have hn : 0 ≤ n ∧ n ≤ 255 := by simpa [Lit.wf, IntKind.min, IntKind.max, IntKind.signed, IntKind.bits] using hw
    simp only [layB]
    congr 2
    have : (UInt8.ofNat n.toNat).toNat = n.toNat := by simp; omega
    rw [this]; omega
theorem dr_ints {H : Type} {O : Obs} {v : V} {d : DataW H} (h : DR O shI [v] d) : ∃ xs : List Int, Ints O v xs := by
  rcases h with ⟨rfl, hv⟩ | ⟨a, rows, elems, spare, rfl, hv, hs, hl, he⟩
  · simp only [List.cons.injEq, and_true] at hv; subst hv
    exact ⟨[], SlR.nil _ _ _⟩
  · simp only [List.cons.injEq, and_true] at hv; subst hv
    refine ⟨elems.map fun x => match x with | .lit (.int _ n) => n | _ => 0, ⟨rows, hs, by simp [hl], ?_⟩⟩
    intro i x r hx hr
    simp only [List.getElem?_map, Option.map_eq_some_iff] at hx
    obtain ⟨y, hy, rfl⟩ := hx
    obtain ⟨n, rfl, hw, rfl⟩ := he i r y hr hy
    rfl
theorem dr_bound {H : Type} {O : Obs} {r : List V} {d : DataW H} (h : DR O (.cs (.int .i64) (.cs shB (.cs shB .nl))) r d) : ∃ b : Bnd, layBd O b r ∧ b.mn.length ≤ Rows.uptoBulk d ∧ b.mx.length ≤ Rows.uptoBulk d := by
  obtain ⟨v1, w1, x1, ds1, rfl, l1, rfl, h1, v2, w2, x2, ds2, rfl, l2, hd2, h2, v3, w3, x3, ds3, rfl, l3, hd3, h3, hd4, rfl⟩ := h
  simp only [DataW.agg.injEq] at hd2 hd3 hd4
  subst hd4; subst hd3; subst hd2
  obtain ⟨n, rfl, _, rfl⟩ := h1
  obtain ⟨p, rfl⟩ : ∃ p, v2 = [p] := by
    match v2, l2 with
    | [p], _ => exact ⟨p, rfl⟩
  obtain ⟨q, rfl⟩ : ∃ q, v3 = [q] := by
    match v3, l3 with
    | [q], _ => exact ⟨q, rfl⟩
  obtain ⟨xs, hx, hxl⟩ := dr_bytes h2
  obtain ⟨ys, hy, hyl⟩ := dr_bytes h3
  have m2 := meas.part [.lit (.int .i64 n), x2, x3] x2 (by simp)
  have m3 := meas.part [.lit (.int .i64 n), x2, x3] x3 (by simp)
  exact ⟨⟨n, xs, ys⟩, ⟨p, q, rfl, hx, hy⟩, by simp only; omega, by simp only; omega⟩
theorem dr_bounds {H : Type} {O : Obs} {v : V} {d : DataW H} (h : DR O shBd [v] d) : ∃ bs : List Bnd, Bnds O v bs ∧ bs.length ≤ Rows.uptoBulk d ∧ ∀ b ∈ bs, b.mn.length ≤ Rows.uptoBulk d ∧ b.mx.length ≤ Rows.uptoBulk d := by
  rcases h with ⟨rfl, hv⟩ | ⟨a, rows, elems, spare, rfl, hv, hs, hl, he⟩
  · simp only [List.cons.injEq, and_true] at hv; subst hv
    exact ⟨[], SlR.nil _ _ _, by simp, by simp⟩
  · simp only [List.cons.injEq, and_true] at hv; subst hv
    have hsl := meas.slice elems spare
    have key : ∀ i : Nat, ∃ b : Bnd, ∀ (r : List V) (y : DataW H), rows[i]? = some r → elems[i]? = some y → layBd O b r ∧ b.mn.length ≤ Rows.uptoBulk (DataW.slice elems spare) ∧ b.mx.length ≤ Rows.uptoBulk (DataW.slice elems spare) := by
      intro i
      by_cases hi : i < rows.length
      · have hi2 : i < elems.length := by omega
        obtain ⟨b, h1, h2, h3⟩ := dr_bound (he i rows[i] elems[i] (List.getElem?_eq_getElem hi) (List.getElem?_eq_getElem hi2))
        have := meas.elem elems spare elems[i] (List.getElem_mem hi2)
        refine ⟨b, fun r y hr hy => ?_⟩
        rw [List.getElem?_eq_getElem hi] at hr
        simp at hr; subst hr
        exact ⟨h1, by omega, by omega⟩
      · exact ⟨⟨0, [], []⟩, fun r y hr => by rw [List.getElem?_eq_none (by omega)] at hr; simp at hr⟩
    let f : Nat → Bnd := fun i => Classical.choose (key i)
    have hf : ∀ i, ∀ (r : List V) (y : DataW H), rows[i]? = some r → elems[i]? = some y → layBd O (f i) r ∧ (f i).mn.length ≤ Rows.uptoBulk (DataW.slice elems spare) ∧ (f i).mx.length ≤ Rows.uptoBulk (DataW.slice elems spare) := fun i => Classical.choose_spec (key i)
    refine ⟨(List.range elems.length).map f, ⟨rows, hs, by simp [hl], ?_⟩, by simpa using hsl, ?_⟩
    · intro i x r hx hr
      have hi : i < rows.length := (List.getElem?_eq_some_iff.1 hr).1
      simp only [List.getElem?_map, Option.map_eq_some_iff] at hx
      obtain ⟨j, hj, rfl⟩ := hx
      rw [List.getElem?_range (by omega)] at hj
      simp at hj; subst hj
      exact (hf i r elems[i] hr (List.getElem?_eq_getElem (by omega))).1
    · intro b hb
      obtain ⟨i, hi, rfl⟩ := List.mem_map.1 hb
      rw [List.mem_range] at hi
      exact (hf i rows[i] elems[i] (List.getElem?_eq_getElem (by omega)) (List.getElem?_eq_getElem hi)).2

theorem shb : ShOf Tryz.prog shB (.inl 30) := ⟨5, Tryz.underlying30, by kernel_rfl, by decide, Tryz.underlying5⟩
theorem sh22 : ShOf Tryz.prog shBd (.inl 22) :=
  ⟨32, Tryz.underlying22, by kernel_rfl, by decide, _, _, _, Tryz.underlying32, by kernel_rfl, rfl, rfl, by kernel_rfl, Tryz.underlying3, _, _, rfl, rfl, by kernel_rfl, shb, _, _, rfl, rfl, by kernel_rfl, shb, rfl⟩
theorem sh23 : ShOf Tryz.prog shI (.inl 23) := ⟨3, Tryz.underlying23, by kernel_rfl, by decide, Tryz.underlying3⟩

theorem slice_of {P : Program} {W : World} {base : Nat} {t e : TypeId} {v : Value} (ht : P.underlying t = some (.slice e)) (h : Value.okWide P W .any base t v) : v.cells.toList = [v] := by
  unfold Value.okWide at h
  rw [ht] at h
  simp only at h
  unfold Cell.okWide at h
  rw [ht] at h
  simp only at h
  unfold Cell.ok at h
  rw [ht] at h
  split at h <;> first | rfl | exact h.elim | simp_all

theorem own : ownKnob Tryz.prog.godebug = none := by kernel_rfl
theorem laidOut : laidOutB Tryz.prog = true := by kernel_rfl

set_option maxRecDepth 100000 in
/-- WHAT THE WALK GIVES, FOR EVERY ARGUMENT OF THAT BULK -/
theorem contract (H : Type) (enc : TypeId × Value → H) (W : World) (base : Nat) (args : Array Value) (ds gs : List (DataW H)) (before : List MemPlace)
    (hval : ∀ (j : Nat) t v, Tryz.f3.params[j]? = some t → args[j]? = some v → Value.okWide Tryz.prog W .any base t v)
    (hW : DataW.Whole enc Tryz.prog Tryz.f3.params.toList Rows.mergeChoosesSpec.vars false W args.toList ds gs before) (hk : Rows.uptoSmall H (ds ++ gs) = true) :
    Calls Tryz.prog 3 args W fun e W' => ∃ v, e = .returned v ∧ Rows.mergeChoosesSpec.post enc Tryz.prog Tryz.f3 false true false false W args v W' := by
  have hW' := hW
  obtain ⟨p, q, hA0, hV, rfl, hfz, hnd⟩ := hW
  have hA : DataW.TrodAll enc Tryz.prog W 0 (fun _ => true) true Tryz.f3.params.toList args.toList ds p := hA0
  rw [Tryz.params3] at hA hval
  obtain ⟨v0, vs0, d0, ds0, p0, q0, hargs, rfl, rfl, h0, r0⟩ := trodAll_cons hA
  obtain ⟨v1, vs1, d1, ds1, p1, q1, rfl, rfl, rfl, h1, r1⟩ := trodAll_cons r0
  obtain ⟨v2, vs2, d2, ds2, p2, q2, rfl, rfl, rfl, h2, r2⟩ := trodAll_cons r1
  obtain ⟨rfl, rfl, rfl⟩ := trodAll_nil r2
  obtain rfl : args = #[v0, v1, v2] := by apply Array.ext'; exact hargs
  obtain ⟨rfl, rfl⟩ := trodVars_none hV
  have hk2 : Rows.uptoSmall H [d0, d1, d2] = true := by simpa using hk
  have hbulk : Rows.uptoBulkAll [d0, d1, d2] ≤ 1048576 := of_decide_eq_true hk2
  simp only [Rows.uptoBulkAll] at hbulk
  have hlt := hW'.lt
  have k0 := h0; have k1 := h1; have k2 := h2
  obtain ⟨f0, h0⟩ := h0
  obtain ⟨f1, h1⟩ := h1
  obtain ⟨budget, rfl, rfl, rfl, w2⟩ := open_int Tryz.underlying3 (hval 2 3 v2 rfl rfl) h2
  have c0 := slice_of Tryz.underlying22 (hval 0 22 v0 rfl rfl)
  have c1 := slice_of Tryz.underlying23 (hval 1 23 v1 rfl rfl)
  rw [c0] at h0
  rw [c1] at h1
  obtain ⟨ι, k, vs, rr1, _, _, e1, l1, _, dr1⟩ := (trod_ab meas shBd).1 22 f0 _ _ sh22 h0 (by simp only; omega) Inj.nil Hp.nil (RoRel.nil W)
  obtain ⟨κ, m, us, rr2, le2, lek, e2, l2, _, dr2⟩ := (trod_ab meas shI).1 23 f1 _ _ sh23 h1 (by simp only; omega) ι k rr1
  obtain ⟨a, rfl⟩ : ∃ a, vs = [a] := by
    match vs, l1 with
    | [a], _ => exact ⟨a, rfl⟩
  obtain ⟨r, rfl⟩ : ∃ r, us = [r] := by
    match us, l2 with
    | [r], _ => exact ⟨r, rfl⟩
  obtain ⟨bs, hbs, hbl, hbe⟩ := dr_bounds (dr1.mono (lek.rle rr1.rel.obj))
  simp only at hbl hbe
  obtain ⟨rs, hrs⟩ := dr_ints dr2
  have hb : -9223372036854775808 ≤ budget ∧ budget ≤ 9223372036854775807 := by simpa [Lit.wf, IntKind.min, IntKind.max, IntKind.signed, IntKind.bits] using w2
  have walk := mergeChooses_walk (O := orac) orac_alive orac_sorts (rr2.rel.obj) hbs hrs (by omega) (fun b hb => by have := hbe b hb; omega) hb
  unfold callW at walk
  have hs := sound (hA_tab orac) orac_ok hmix walk κ #[v0, v1, .int .i64 budget] W ?_ rr2.rel
  · refine Calls.mono hs ?_
    rintro e W' ⟨v, h', κ', c, ⟨v', hv', rfl⟩, rfl, hvr, _, hE⟩
    simp only [Rs.val.injEq] at hv'; subst hv'
    simp only [VR] at hvr; subst hvr
    have hbelow : Below W.heap.size W W' := hE.below fun b _ => rr2.RO b
    have post1 : DataW.TrodAll enc Tryz.prog W' W.heap.size (fun _ => false) false [4] [.bool true] [.lit (.bool true)] [] := trodAll_cons_mk (shut_bool Tryz.underlying4 _) trodAll_mk0
    have post2 := trodAll_cons_mk (Below.trod laidOut (by kernel_rfl) (of_decide_eq_true (by kernel_rfl)) k0 hbelow fun x hx => hlt x (by simp [hx])) (trodAll_cons_mk (Below.trod laidOut (by kernel_rfl) (of_decide_eq_true (by kernel_rfl)) k1 hbelow fun x hx => hlt x (by simp [hx])) (trodAll_cons_mk (shut_int (enc := enc) (w := W') (base := 0) (spare := fun b => decide (b < W.heap.size)) (held := true) Tryz.underlying3 w2) trodAll_mk0))
    exact ⟨_, rfl, _, _, _, _, _, [], hW', post1, post2, rfl, hbelow.frame _, fun hag => by cases hag⟩
  · obtain ⟨x0, y0, g0, g1, g2⟩ := e1
    obtain ⟨x1, y1, g3, g4, g5⟩ := e2
    simp only [VRs] at g2 g5
    subst g2; subst g5
    simp only [List.cons.injEq, and_true] at g0 g3
    subst g0; subst g3
    exact ⟨_, _, rfl, VR.mono le2 _ _ g1, _, _, rfl, g4, _, _, rfl, rfl, rfl⟩

/- A WORLD FOR THE WITNESS -/
def litCells : DataW Unit → List Value
  | .agg parts => parts.flatMap fun
    | .lit (.int k n) => [.int k n]
    | .agg ps => ps.flatMap fun
      | .lit (.int k n) => [.int k n]
      | _ => []
    | _ => []
  | _ => []
def layCells (d : DataW Unit) : Obj → Obj
  | .cells _ t frozen => .cells (litCells d).toArray t frozen
  | o => o
noncomputable def laidWorld (os : Os) : World :=
  { World.holding Tryz.prog os ⟨#[], #[], []⟩ with heap := ((World.holding Tryz.prog os ⟨#[], #[], []⟩).heap.modify 1 (layCells Rows.laid_unicode_utf8_first)).modify 2 (layCells Rows.laid_unicode_utf8_acceptRanges) }
theorem laid_met (os : Os) : laidMet Tryz.prog Rows.mergeChoosesUptoRow.laid ((laidWorld os).forCall (fun _ _ => 0) ⟨#[], #[.slice none 0 0, .slice none 0 0, .int .i64 0], []⟩).memory :=
  laidMet_of_run' 8 (by kernel_rfl) (by kernel_rfl)
theorem reads (os : Os) {H : Type} (enc : TypeId × Value → H) : ∃ places, DataW.whole enc Tryz.prog ((laidWorld os).forCall (fun _ _ => 0) ⟨#[], #[.slice none 0 0, .slice none 0 0, .int .i64 0], []⟩).memory Tryz.f3.params.toList Rows.mergeChoosesSpec.vars false #[Value.slice none 0 0, .slice none 0 0, .int .i64 0].toList 8 = some ([.nil, .nil, .lit (.int .i64 0)], [], places) :=
  ⟨[], by kernel_rfl⟩

set_option maxRecDepth 100000 in
theorem lifted (os : Os) (started : os.Started) (H : Type) (enc : TypeId × Value → H) (F : Stop.Interp) :
    ReturnsInHanded {} Tryz.checked os 3 .any ((Rows.OpenSpec.upto Rows.mergeChoosesSpec).preRow enc Tryz.prog Tryz.f3 Rows.mergeChoosesUptoRow.domain false Rows.mergeChoosesUptoRow.laid) (((Rows.OpenSpec.upto Rows.mergeChoosesSpec).at F).post enc Tryz.prog Tryz.f3 false true false false) := by
  obtain ⟨places, hx⟩ := reads os enc
  refine returnsInHanded_of_row (C := Tryz.checked) (s := Rows.OpenSpec.upto Rows.mergeChoosesSpec) own started (by kernel_rfl) Tryz.func3
    (witness_row_at (enc := enc) (C := Tryz.checked) false (laidWorld os) #[.slice none 0 0, .slice none 0 0, .int .i64 0] rfl (by kernel_rfl) (by kernel_rfl) (by kernel_rfl)
      (OpenSpec.preRow_of_cond 8 hx (by kernel_rfl) (fun k hk => by cases hk; kernel_rfl) (by kernel_rfl) (laid_met os))) ?_
  intro W base args ds gs before hval hW _ hcond _ _ _ _
  exact contract H enc W base args ds gs before hval hW (hcond _ rfl)

theorem said : Rows.MergeChoosesUptoSaid :=
  OpenClaim.holds_of_cond 3 Tryz.f3 rfl rfl rfl rfl rfl rfl rfl ⟨rfl, rfl, rfl, rfl, rfl⟩ rfl rfl rfl rfl rfl (by kernel_rfl) Tryz.func3 (by kernel_rfl)
    (of_decide_eq_true (by kernel_rfl)) (by unfold Func.isWrapper; first | (rw [if_pos (by decide +kernel)]; kernel_rfl) | (rw [if_neg (by decide +kernel)]; exact ⟨rfl, rfl⟩))
    (fun os started H enc _ F => by rw [OpenClaim.pre_eq_preRow]; exact lifted os started H enc F)

theorem plain (f : FuncId) (fn : Func) (hf : Tryz.pinned.checked.prog.funcNamed "stoa/stoalaw24.MergeChooses" = some f) (hfn : Tryz.pinned.checked.prog.funcs[f]? = some fn) :
    false = Tryz.pinned.checked.prog.looks [] ∧ ∀ (j : Nat) t, fn.params[j]? = some t → Tryz.pinned.checked.prog.wantsStandIn t = false := by
  obtain rfl : f = 3 := Option.some.inj ((show Tryz.prog.funcNamed "stoa/stoalaw24.MergeChooses" = some 3 by kernel_rfl).symm.trans hf) |>.symm
  obtain rfl : fn = Tryz.f3 := (Option.some.inj (Tryz.func3.symm.trans hfn)).symm
  refine ⟨by kernel_rfl, fun j t ht => ?_⟩
  rw [Tryz.params3] at ht
  have ht2 : t = 22 ∨ t = 23 ∨ t = 3 := by simpa using Array.mem_of_getElem? ht
  rcases ht2 with rfl | rfl | rfl
  · exact (show Tryz.prog.wantsStandIn 22 = false by kernel_rfl)
  · exact (show Tryz.prog.wantsStandIn 23 = false by kernel_rfl)
  · exact (show Tryz.prog.wantsStandIn 3 = false by kernel_rfl)

theorem card : Rows.MergeChoosesUptoCardSaid :=
  Claim7.holds_tied_plain_at .later [] _ _ _ _ said (fun _ h => by cases h) (by kernel_rfl) (fun _ h => by cases h) mergeChoosesUpto_row_tie rfl ⟨rfl, rfl⟩ (by kernel_rfl) rfl plain (by kernel_rfl)
end Go.Proofs.YtpphdocfglmffaaGreatDoor.mergeChooses
