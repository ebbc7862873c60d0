/- The library's sorts: slices.SortFunc at pairs of numbers, slices.Sort at numbers: sound for the abstract machine. -/
import Derived.Test.YtpphdocfglmffaaGreatDoorAbSort
import Derived.Shelf.SlSortCmp.NoneTotal
import Derived.Shelf.SortM.Plain
import Derived.Shelf.SortM.SortNone
set_option linter.unusedVariables false
set_option linter.unusedSimpArgs false
namespace Go.Ab
open Go.RowKit (Below)
open Go.Shelf Go.Sort Go.Proofs
set_option linter.unusedVariables false
set_option linter.unusedSimpArgs false

theorem VRs.ints {ι : Inj} : ∀ (xs : List Int) {cs : List Value}, VRs ι (xs.map (V.int .i64)) cs ↔ cs = xs.map (Value.int .i64)
  | [], cs => by simp [VRs]
  | x :: xs, cs => by
    simp only [List.map_cons, VRs, VR]
    constructor
    · rintro ⟨d, r, rfl, rfl, h⟩
      rw [(VRs.ints xs).1 h]
    · rintro rfl
      exact ⟨_, _, rfl, rfl, (VRs.ints xs).2 rfl⟩

theorem rows_ints {O : Obs} {rows : List (List V)} {l : List Int} (hl : rows.length = l.length) (h : ∀ (i : Nat) (x : Int) (r : List V), l[i]? = some x → rows[i]? = some r → layI O x r) : rows.flatten = l.map (V.int .i64) := by
  induction rows generalizing l with
  | nil => cases l with
    | nil => rfl
    | cons => simp at hl
  | cons r rows ih => cases l with
    | nil => simp at hl
    | cons x l =>
      have h0 : r = [.int .i64 x] := h 0 x r rfl rfl
      subst h0
      rw [List.flatten_cons, ih (l := l) (by simpa using hl) (fun i y q hy hq => h (i + 1) y q (by simpa using hy) (by simpa using hq))]
      rfl

def pairL (x : Int × Int) : List Int := [x.1, x.2]
theorem rows_pairs {O : Obs} {rows : List (List V)} {l : List (Int × Int)} (hl : rows.length = l.length) (h : ∀ (i : Nat) (x : Int × Int) (r : List V), l[i]? = some x → rows[i]? = some r → layS O x r) : rows.flatten = (l.flatMap pairL).map (V.int .i64) := by
  induction rows generalizing l with
  | nil => cases l with
    | nil => rfl
    | cons => simp at hl
  | cons r rows ih => cases l with
    | nil => simp at hl
    | cons x l =>
      have h0 : r = [.int .i64 x.1, .int .i64 x.2] := h 0 x r rfl rfl
      subst h0
      rw [List.flatten_cons, ih (l := l) (by simpa using hl) (fun i y q hy hq => h (i + 1) y q (by simpa using hy) (by simpa using hq))]
      rfl

section
variable {P : Program} {ρ : Ren}

/-- slices.Sort at numbers -/
theorem sortInts_ok (Ly : SlLaysM.n5 P ρ) {h : Hp} {a : V} {l : List Int} {R : V → Hp → Prop} (ok : h.ok) (g : GrowR layI 1 h a l) (k : ∀ k l', Sorted layI 1 (· ≤ ·) h a l k l' → R (.tup []) k) :
    Sound P (.call (ρ.f 5) [a]) h fun r k => ∃ v, r = .val v ∧ R v k := by
  intro ι cargs w hv hR
  obtain ⟨av, rest, hc, hva, hr⟩ := hv
  simp only [VRs] at hr
  subst hr
  have hcargs : cargs = #[av] := by apply Array.ext'; rw [hc]
  subst hcargs
  obtain ⟨rows, g1, g2, g3⟩ := g.rd
  by_cases hz : rows.length = 0
  · have hl0 : l = [] := List.eq_nil_of_length_eq_zero (by omega)
    subst hl0
    have hav : ∃ p cap, av = .slice p 0 cap := by
      rcases g1.sl.shape with ⟨rfl, _⟩ | ⟨s, gg, o, c, rfl, _, _⟩
      · simp only [VR] at hva; exact ⟨_, _, hva⟩
      · obtain ⟨A, c', rfl, _⟩ := hva; rw [hz]; exact ⟨_, _, rfl⟩
    obtain ⟨p, cap, rfl⟩ := hav
    refine Calls.mono (AnyM.slices_Sort_int_none Ly p cap w) ?_
    rintro e w' ⟨rfl, rfl⟩
    exact ⟨.tup [], h, ι, _, ⟨_, rfl, k h [] ⟨List.Perm.refl _, List.Pairwise.nil, rfl, ok, fun _ _ => rfl, g.slr⟩⟩, rfl, ⟨#[], rfl, rfl⟩, hR, Ext.refl _ _ _⟩
  · obtain ⟨blk, off, cap', cs, rfl, hblk, hvs, hlc, hcell, core⟩ := sort_core hR g1 (by omega) (by omega) hva
    rw [rows_ints g2 g3] at hvs
    have hcs := (VRs.ints l).1 hvs
    subst hcs
    have hH : Holds (Value.int .i64) w blk off l.toArray := by
      intro j hj
      have hj' : j < l.length := by simpa using hj
      obtain ⟨h1, h2⟩ := hcell j (by simpa using hj')
      refine ⟨?_, h2⟩
      rw [h1, List.getElem?_map, List.getElem?_eq_getElem hj']
      simp [hj']
    have hlim := g.slr.lim
    rw [g2]
    refine Calls.mono (AnyM.slices_Sort_int Ly blk off cap' l w hH hblk (by omega)) ?_
    rintro e w' ⟨rfl, n, os, hu⟩
    have hperm := List.mergeSort_perm l (fun x y => decide (x ≤ y))
    have hsrt := List.pairwise_mergeSort (le := fun x y : Int => decide (x ≤ y)) (by intro a b c; simp; omega) (by intro a b; simp; omega) l
    generalize hls : (l.mergeSort fun x y => decide (x ≤ y)) = l' at hu hperm hsrt
    have hlen := hperm.length_eq
    have sw := sorted_world hu (cs := l'.map (Value.int .i64)) (by simp) (by intro j hj; simp at hj; simp [hj])
    obtain ⟨k2, q1, q2, q3, q4, q5⟩ := core (l'.map fun n => [.int .i64 n]) (l'.map (Value.int .i64)) w' (by simp [hlen, g2]) (by simp) (by simp) (by
        have : (l'.map fun n => [V.int .i64 n]).flatten = l'.map (V.int .i64) := rows_ints (O := h.obj) (by simp) (by intro i x r hx hr; simp [hx] at hr; exact hr.symm)
        rw [this]; exact (VRs.ints l').2 rfl) (by
        obtain ⟨s1, s2, s3, s4, s5, s6, s7⟩ := sw
        refine ⟨s1, s2, s3, s4, s5, s6, fun c el fr hc => ?_⟩
        obtain ⟨c', z1, z2, z3⟩ := s7 c el fr hc
        exact ⟨c', z1, z2, fun hfit => z3 (by simpa using hfit)⟩)
    refine ⟨.tup [], k2, ι, _, ⟨_, rfl, k k2 l' ⟨hperm, hsrt.imp (by simp), q3, q1.obj, ?_, ⟨_, q5, by simp, by intro i x r hx hr; simp [hx] at hr; exact hr.symm⟩⟩⟩, rfl, ⟨#[], rfl, rfl⟩, q1, q2⟩
    intro i hi
    rcases hi with hi | hi
    · subst hi
      rcases g1.sl.shape with ⟨_, rfl⟩ | ⟨_, _, _, _, h1, _⟩
      · simp at hz
      · simp at h1
    · exact q4 i hi

def encS (x : Int × Int) : List Value := [.int .i64 x.1, .int .i64 x.2]

theorem flat_pairs (l : List (Int × Int)) : (flatK encS 2 l.toArray).toList = (l.flatMap pairL).map (Value.int .i64) := by
  have hlen : (l.flatMap pairL).length = l.length * 2 := by
    induction l with
    | nil => rfl
    | cons x l ih => rw [List.flatMap_cons, List.length_append, ih, List.length_cons]; simp [pairL]; omega
  apply List.ext_getElem?
  intro j
  by_cases hj : j < l.length * 2
  · have e1 : (flatK encS 2 l.toArray).toList[j]? = some ((encS l[j / 2])[j % 2]!) := by
      have h2 : j / 2 < l.length := by omega
      simp only [flatK, Array.toList_map, List.getElem?_map, Array.toList_range, List.size_toArray]
      rw [List.getElem?_range hj]
      simp [h2]
    rw [e1]
    clear e1
    have key : ∀ (l : List (Int × Int)) (j : Nat) (hj : j < l.length * 2), ((l.flatMap pairL).map (Value.int .i64))[j]? = some ((encS (l[j / 2]'(by omega)))[j % 2]!) := by
      intro l
      induction l with
      | nil => intro j hj; simp at hj
      | cons x l ih =>
        intro j hj
        match j, hj with
        | 0, _ => rfl
        | 1, _ => rfl
        | j + 2, hj =>
          have h := ih j (by simp at hj; omega)
          rw [List.flatMap_cons, List.map_append, List.getElem?_append_right (by simp [pairL])]
          simp only [pairL, List.map_cons, List.map_nil, List.length_cons, List.length_nil]
          rw [show j + 2 - (0 + 1 + 1) = j by omega, h]
          congr 1
          have e2 : (j + 2) / 2 = j / 2 + 1 := by omega
          have e3 : (j + 2) % 2 = j % 2 := by omega
          simp only [e3, e2, List.getElem_cons_succ]
    exact (key l j hj).symm
  · rw [List.getElem?_eq_none (by simp; omega), List.getElem?_eq_none (by rw [List.length_map, hlen]; omega)]

/-- slices.SortFunc at pairs of numbers -/
theorem sortPairs_ok (L : SlLaysF0.n6 P ρ) (aE : ∀ w, (isAgg (ρ.t 24)).run P w = .ok true w) (zE : ∀ w, (Go.sizeOf (ρ.t 24)).run P w = .ok 2 w) (cf : (Int × Int) → (Int × Int) → Int) (hO : SWO (ltOf cf)) (le : (Int × Int) → (Int × Int) → Prop) (hle : ∀ x y, ¬ cf y x < 0 → le x y) (gf : Nat)
    (eg : ∀ args w, (callFunc gf args).run P w = .ok (.enter gf args) w)
    (hcmp : ∀ x y W, Calls P gf #[.agg (encS x).toArray, .agg (encS y).toArray] W fun e w' => e = .returned (.int .i64 (cf x y)) ∧ ∃ q os', w' = grow (W.drewN q) os')
    {h : Hp} {a : V} {l : List (Int × Int)} {R : V → Hp → Prop} (ok : h.ok) (g : GrowR layS 2 h a l) (k : ∀ k l', Sorted layS 2 le h a l k l' → R (.tup []) k) :
    Sound P (.call (ρ.f 6) [a, .fn (.func gf) [] []]) h fun r k => ∃ v, r = .val v ∧ R v k := by
  intro ι cargs w hv hR
  obtain ⟨av, rest, hc, hva, fv, rest2, rfl, hfv, hr⟩ := hv
  simp only [VRs] at hr
  subst hr
  obtain ⟨fa, bs, rfl, has, hbs⟩ := hfv
  simp only [VRs] at has hbs
  have has : fa = #[] := by apply Array.ext'; exact has
  have hbs : bs = #[] := by apply Array.ext'; exact hbs
  subst has; subst hbs
  have hcargs : cargs = #[av, .func (.func gf) #[] #[]] := by apply Array.ext'; rw [hc]
  subst hcargs
  obtain ⟨rows, g1, g2, g3⟩ := g.rd
  by_cases hz : rows.length = 0
  · have hl0 : l = [] := List.eq_nil_of_length_eq_zero (by omega)
    subst hl0
    have hav : ∃ p cap, av = .slice p 0 cap := by
      rcases g1.sl.shape with ⟨rfl, _⟩ | ⟨s, gg, o, c, rfl, _, _⟩
      · simp only [VR] at hva; exact ⟨_, _, hva⟩
      · obtain ⟨A, c', rfl, _⟩ := hva; rw [hz]; exact ⟨_, _, rfl⟩
    obtain ⟨p, cap, rfl⟩ := hav
    refine Calls.mono (AnyF.slices_SortFunc_none L p cap _ w) ?_
    rintro e w' ⟨rfl, rfl⟩
    exact ⟨.tup [], h, ι, _, ⟨_, rfl, k h [] ⟨List.Perm.refl _, List.Pairwise.nil, rfl, ok, fun _ _ => rfl, g.slr⟩⟩, rfl, ⟨#[], rfl, rfl⟩, hR, Ext.refl _ _ _⟩
  · obtain ⟨blk, off, cap', cs, rfl, hblk, hvs, hlc, hcell, core⟩ := sort_core hR g1 (by omega) (by omega) hva
    rw [rows_pairs g2 g3] at hvs
    have hcs := (VRs.ints _).1 hvs
    subst hcs
    have hsz2 : (flatK encS 2 l.toArray).size = l.length * 2 := by simp
    have hH : HoldsK encS 2 w blk off l.toArray := by
      intro j hj
      rw [hsz2] at hj
      obtain ⟨h1, h2⟩ := hcell j (by rw [hlc]; omega)
      refine ⟨?_, h2⟩
      rw [h1, ← flat_pairs, Array.getElem?_toList, Array.getElem?_eq_getElem (by omega), getElem!_pos _ _ (by omega)]
      rfl
    have hlim := g.slr.lim
    rw [g2]
    refine Calls.mono (AnyQ.slices_SortFunc L 2 aE zE encS (fun _ => rfl) (fun x v hv => by simp [encS] at hv; rcases hv with rfl | rfl <;> rfl) cf hO gf #[] blk off cap' l.toArray w eg (fun m os dk _ x y => hcmp x y _) hH hblk (by simp; omega)) ?_
    rintro e w' ⟨rfl, d', n, os, hp, hs, hu⟩
    obtain ⟨l', rfl⟩ : ∃ l' : List (Int × Int), d' = l'.toArray := ⟨d'.toList, by simp⟩
    have hperm : l'.Perm l := by
      have h1 := hp.2.2
      have h2 : l'.length = l.length := by simpa using hp.1
      simpa [h2, List.take_of_length_le] using h1
    have hlen := hperm.length_eq
    have hsrt : l'.Pairwise le := by
      rw [List.pairwise_iff_getElem]
      intro i j hi hj hij
      have := hs i j (by omega) hij (by simp; omega)
      rw [getElem!_pos _ j (by simpa using hj), getElem!_pos _ i (by simpa using hi)] at this
      simp only [ltOf, decide_eq_false_iff_not, List.getElem_toArray] at this
      exact hle _ _ this
    have hu2 : w' = grow (putRow id (Sort.ahead w n) blk off (flatK encS 2 l'.toArray)) os := hu
    have sw := sorted_world hu2 (cs := (l'.flatMap pairL).map (Value.int .i64)) (by rw [← flat_pairs]; simp) (by
      intro j hj
      rw [← flat_pairs, Array.getElem?_toList, Array.getElem?_eq_getElem hj]
      show some _ = some ((flatK encS 2 l'.toArray)[j]!)
      rw [getElem!_pos (flatK encS 2 l'.toArray) j hj])
    have hfl : (l'.map fun x => [V.int .i64 x.1, V.int .i64 x.2]).flatten = (l'.flatMap pairL).map (V.int .i64) := rows_pairs (O := h.obj) (by simp) (by intro i x r hx hr; simp [hx] at hr; exact hr.symm)
    have hcl2 : ((l'.flatMap pairL).map (Value.int .i64)).length = (flatK encS 2 l'.toArray).size := by rw [← flat_pairs]; simp
    obtain ⟨k2, q1, q2, q3, q4, q5⟩ := core (l'.map fun x => [.int .i64 x.1, .int .i64 x.2]) ((l'.flatMap pairL).map (Value.int .i64)) w' (by simp [hlen, g2]) (by intro r hr; obtain ⟨x, _, rfl⟩ := List.mem_map.1 hr; rfl) (by intro r hr; obtain ⟨x, _, rfl⟩ := List.mem_map.1 hr; rfl) (by rw [hfl]; exact (VRs.ints _).2 rfl) (by
        obtain ⟨s1, s2, s3, s4, s5, s6, s7⟩ := sw
        refine ⟨s1, s2, s3, s4, s5, s6, fun c el fr hc => ?_⟩
        obtain ⟨c', z1, z2, z3⟩ := s7 c el fr hc
        exact ⟨c', z1, z2, fun hfit => z3 (by rw [← hcl2]; exact hfit)⟩)
    refine ⟨.tup [], k2, ι, _, ⟨_, rfl, k k2 l' ⟨hperm, hsrt, q3, q1.obj, ?_, ⟨_, q5, by simp, by intro i x r hx hr; simp [hx] at hr; exact hr.symm⟩⟩⟩, rfl, ⟨#[], rfl, rfl⟩, q1, q2⟩
    intro i hi
    rcases hi with hi | hi
    · subst hi
      rcases g1.sl.shape with ⟨_, rfl⟩ | ⟨_, _, _, _, h1, _⟩
      · simp at hz
      · simp at h1
    · exact q4 i hi

/-- what the abstract machine shows of a function that is handed values alone -/
theorem calls_of_walk {A : Tb} (hA : ∀ f fn, A.fn f = some fn → ∃ F, P.funcs[f]? = some F ∧ cFunc P F = some fn) (hO : OrcOk P A.orc) (hm : P.follows .mixedOrders = true) {f : Nat} {args : List V} {cargs : Array Value} {n : Int} (hv : VRs Inj.nil args cargs.toList)
    (hw : callW A f args Hp.nil fun v _ => v = .int .i64 n) (W : World) : Calls P f cargs W fun e w' => e = .returned (.int .i64 n) ∧ ∃ q os', w' = grow (W.drewN q) os' := by
  unfold callW at hw
  refine Calls.mono (sound hA hO hm hw Inj.nil cargs W hv (Rel.nil W)) ?_
  rintro e w' ⟨v, k, κ, c, ⟨v', h1, rfl⟩, rfl, hvr, _, hE⟩
  simp only [Rs.val.injEq] at h1; subst h1
  simp only [VR] at hvr; subst hvr
  exact ⟨rfl, _, _, grown_of_ext hE⟩
end
end Go.Ab
