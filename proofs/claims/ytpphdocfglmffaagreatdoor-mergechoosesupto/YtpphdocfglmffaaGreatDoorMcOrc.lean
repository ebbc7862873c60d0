/- MergeChooses: what is known of the examples and of the sorts is so. -/
import Derived.Test.YtpphdocfglmffaaGreatDoorMc8
import Derived.Test.YtpphdocfglmffaaGreatDoorMcLay
import Derived.Test.YtpphdocfglmffaaGreatDoorAbFa
import Derived.Test.YtpphdocfglmffaaGreatDoorAbFc
import Derived.Test.YtpphdocfglmffaaGreatDoorAbSort2
import Derived.Test.YtpphdocfglmffaaGreatDoorChecked
set_option linter.unusedVariables false
set_option linter.unusedSimpArgs false
namespace Go.Ab.Fs
open Go.RowKit (Below)
open Go.Shelf Go.Sort Go.Proofs
set_option linter.unusedVariables false
set_option linter.unusedSimpArgs false

theorem hA_tab (O : Orc) : ∀ f fn, (A O).fn f = some fn → ∃ F, Tryz.prog.funcs[f]? = some F ∧ cFunc Tryz.prog F = some fn := look_ok tabOk
theorem hmix : Tryz.prog.follows .mixedOrders = true := by kernel_rfl

theorem ltS (x y : Int × Int) : ltOf cmpS x y = true ↔ ¬ spanLe y x := by
  simp only [ltOf, decide_eq_true_eq, cmpS, orZ, cmpI, spanLe]
  by_cases h1 : x.2 < y.2
  · simp [h1]; omega
  · by_cases h2 : y.2 < x.2
    · simp [h1, h2]
    · by_cases h3 : x.1 < y.1
      · simp [h1, h2, h3]
      · by_cases h4 : y.1 < x.1
        · simp [h1, h2, h3, h4]; omega
        · simp [h1, h2, h3, h4]; omega
theorem swoS : SWO (ltOf cmpS) where
  irrefl x := by
    cases h : ltOf cmpS x x with
    | false => rfl
    | true => rw [ltS] at h; unfold spanLe at h; omega
  trans x y z h1 h2 := by rw [ltS] at *; unfold spanLe at *; omega
  ntrans x y z h1 h2 := by
    cases h : ltOf cmpS x z with
    | false => rfl
    | true =>
      have g1 : ¬ ¬ spanLe y x := fun hh => by rw [(ltS x y).2 hh] at h1; simp at h1
      have g2 : ¬ ¬ spanLe z y := fun hh => by rw [(ltS y z).2 hh] at h2; simp at h2
      rw [ltS] at h; unfold spanLe at *; omega

theorem ok_nil : Hp.nil.ok := fun i o h => by simp [Hp.nil] at h

theorem cmp_calls (x y : Int × Int) (W : World) : Calls Tryz.prog 23 #[.agg (encS x).toArray, .agg (encS y).toArray] W fun e w' => e = .returned (.int .i64 (cmpS x y)) ∧ ∃ q os', w' = grow (W.drewN q) os' := by
  refine calls_of_walk (A := A Orc.none) (hA_tab _) (OrcOk.none _) hmix (args := [.agg [.int .i64 x.1, .int .i64 x.2], .agg [.int .i64 y.1, .int .i64 y.2]]) ?_ (cmpS_spec ok_nil (fun _ _ _ => rfl)) W
  exact ⟨_, _, rfl, ⟨_, rfl, _, _, rfl, rfl, _, _, rfl, rfl, rfl⟩, _, _, rfl, ⟨_, rfl, _, _, rfl, rfl, _, _, rfl, rfl, rfl⟩, rfl⟩

/-- what is known -/
def orac : Orc := fun f args h R =>
  (f = N_stoalaw24_alive ∧ args = [] ∧ R (.bool true) h) ∨
  (f = N_slices_SortFunc_merge_span_merge_span ∧ ∃ a l, args = [a, .fn (.func N_merge_Choose_1) [] []] ∧ h.ok ∧ GrowR layS 2 h a l ∧ ∀ k l', Sorted layS 2 spanLe h a l k l' → R (.tup []) k) ∨
  (f = N_slices_Sort_int_int ∧ ∃ a l, args = [a] ∧ h.ok ∧ GrowR layI 1 h a l ∧ ∀ k l', Sorted layI 1 (· ≤ ·) h a l k l' → R (.tup []) k)

theorem orac_alive (h : Hp) (R : V → Hp → Prop) (hr : R (.bool true) h) : orac N_stoalaw24_alive [] h R := .inl ⟨rfl, rfl, hr⟩
theorem orac_sorts : SortsKnown orac where
  spans h a l R ok g k := .inr (.inl ⟨rfl, a, l, rfl, ok, g, k⟩)
  ints h a l R ok g k := .inr (.inr ⟨rfl, a, l, rfl, ok, g, k⟩)

theorem alive_ok (h : Hp) (R : V → Hp → Prop) (hr : R (.bool true) h) : Sound Tryz.prog (.call N_stoalaw24_alive []) h fun r k => ∃ v, r = .val v ∧ R v k := by
  intro ι cargs w hv hR
  simp only [VRs] at hv
  have : cargs = #[] := by apply Array.ext'; exact hv
  subst this
  refine Calls.mono (closed_calls tabOk hmix alive_ev w) ?_
  rintro e w' ⟨c, κ, k, rfl, hvr, _, hE⟩
  simp only [VR] at hvr; subst hvr
  have hb : ∀ b, b < w.heap.size → w'.heap[b]? = w.heap[b]? := fun b hlt => (hE.ro b hlt (RO.nil b)).2
  exact ⟨.bool true, h, ι, _, ⟨_, rfl, hr⟩, rfl, rfl, hR.grown hE.size hb, Ext.grown hE.os hE.tape hE.output hE.drawn hE.size hb⟩

theorem orac_ok : OrcOk Tryz.prog orac := by
  intro f args h R ho
  rcases ho with ⟨rfl, rfl, hr⟩ | ⟨rfl, a, l, rfl, ok, g, k⟩ | ⟨rfl, a, l, rfl, ok, g, k⟩
  · exact alive_ok h R hr
  · exact sortPairs_ok Tryz.sortS Tryz.isAgg63 Tryz.sizeOf63 cmpS swoS spanLe (fun x y hxy => by
      by_cases hh : spanLe x y
      · exact hh
      · exact absurd (by simpa [ltOf] using (ltS y x).2 hh) hxy) 23 (enters_of Tryz.func23 (by kernel_rfl) rfl) cmp_calls ok g k
  · exact sortInts_ok Tryz.sortI ok g k

end Go.Ab.Fs
