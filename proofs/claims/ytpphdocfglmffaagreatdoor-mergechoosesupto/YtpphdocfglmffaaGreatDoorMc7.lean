/- MergeChooses: the plain law: what the program chooses is what the reference chooses. -/
import Derived.Test.YtpphdocfglmffaaGreatDoorMc6
set_option linter.unusedVariables false
set_option linter.unusedSimpArgs false
namespace Go.Ab.Fs
set_option linter.unusedSimpArgs false
set_option linter.unusedVariables false

theorem spanLe_total (x y : Int × Int) : spanLe x y ∨ spanLe y x := by unfold spanLe; omega
theorem spanLe_trans {x y z : Int × Int} (h : spanLe x y) (k : spanLe y z) : spanLe x z := by unfold spanLe at *; omega
theorem spanLe_anti {x y : Int × Int} (h : spanLe x y) (k : spanLe y x) : x = y := by
  unfold spanLe at *
  exact Prod.ext (by omega) (by omega)
theorem ahead_iff (bs : List Bnd) (rs : List Int) (i j : Nat) : ahead bs rs i j = true ↔ ¬ spanLe (spanOf bs rs j) (spanOf bs rs i) := by
  simp only [ahead, spanLe, spanOf, Bool.or_eq_true, Bool.and_eq_true, decide_eq_true_eq]; omega

/-- the next is least among those not taken -/
theorem next_least {bs : List Bnd} {rs : List Int} {taken : List Nat} : ∀ {l : List Nat} {o : Option Nat} {k : Nat}, l.foldl (nextStep bs rs taken) o = some k →
    (∀ j, o = some j → spanLe (spanOf bs rs k) (spanOf bs rs j)) ∧ ∀ j ∈ l, j ∉ taken → spanLe (spanOf bs rs k) (spanOf bs rs j)
  | [], o, k, h => by
    simp only [List.foldl_nil] at h
    subst h
    refine ⟨fun j hj => ?_, by simp⟩
    simp at hj; subst hj; unfold spanLe; omega
  | x :: l, o, k, h => by
    obtain ⟨h1, h2⟩ := next_least (l := l) (o := nextStep bs rs taken o x) h
    by_cases hx : x ∈ taken
    · rw [show nextStep bs rs taken o x = o by simp [nextStep, hx]] at h1
      refine ⟨h1, fun j hj hjt => ?_⟩
      rcases List.mem_cons.1 hj with rfl | hj
      · exact absurd hx hjt
      · exact h2 j hj hjt
    · have key : ∃ w, nextStep bs rs taken o x = some w ∧ spanLe (spanOf bs rs w) (spanOf bs rs x) ∧ ∀ j, o = some j → spanLe (spanOf bs rs w) (spanOf bs rs j) := by
        cases o with
        | none => exact ⟨x, by simp [nextStep, hx], by unfold spanLe; omega, by simp⟩
        | some j =>
          cases ha : ahead bs rs x j with
          | true =>
            refine ⟨x, by simp [nextStep, hx, ha], by unfold spanLe; omega, fun j' hj' => ?_⟩
            simp at hj'; subst hj'
            exact (spanLe_total _ _).resolve_right ((ahead_iff _ _ _ _).1 ha)
          | false =>
            refine ⟨j, by simp [nextStep, hx, ha], ?_, fun j' hj' => ?_⟩
            · by_cases hh : spanLe (spanOf bs rs j) (spanOf bs rs x)
              · exact hh
              · rw [(ahead_iff _ _ _ _).2 hh] at ha; simp at ha
            · simp at hj'; subst hj'; unfold spanLe; omega
      obtain ⟨w, hw, hwx, hwo⟩ := key
      have hkw := h1 w hw
      refine ⟨fun j hj => spanLe_trans hkw (hwo j hj), fun j hj hjt => ?_⟩
      rcases List.mem_cons.1 hj with rfl | hj
      · exact spanLe_trans hkw hwx
      · exact h2 j hj hjt

theorem putZ_perm (n : Int) : ∀ l : List Int, (putZ n l).Perm (n :: l)
  | [] => List.Perm.refl _
  | x :: r => by
    simp only [putZ]
    split
    · exact List.Perm.refl _
    · exact (List.Perm.cons x (putZ_perm n r)).trans (List.Perm.swap n x r)
theorem putZ_sorted (n : Int) : ∀ {l : List Int}, l.Pairwise (· ≤ ·) → (putZ n l).Pairwise (· ≤ ·)
  | [], _ => by simp [putZ]
  | x :: r, h => by
    simp only [putZ]
    obtain ⟨h1, h2⟩ := List.pairwise_cons.1 h
    split
    · rename_i hn
      refine List.pairwise_cons.2 ⟨fun y hy => ?_, h⟩
      rcases List.mem_cons.1 hy with rfl | hy
      · omega
      · have := h1 y hy; omega
    · rename_i hn
      refine List.pairwise_cons.2 ⟨fun y hy => ?_, putZ_sorted n h2⟩
      rcases List.mem_cons.1 ((putZ_perm n r).mem_iff.1 hy) with rfl | hy
      · omega
      · exact h1 y hy

theorem perm_taken {best taken : List Nat} (hb : best.Nodup) (ht : taken.Nodup) (hs : ∀ k ∈ taken, k ∈ best) : best.Perm (taken ++ best.filter fun k => decide (k ∉ taken)) := by
  refine (List.perm_ext_iff_of_nodup hb ?_).2 fun a => ?_
  · refine List.nodup_append.2 ⟨ht, hb.filter _, fun a ha b hbb => ?_⟩
    have := (List.mem_filter.1 hbb).2
    rintro rfl
    simp at this; exact this ha
  · rw [List.mem_append, List.mem_filter]
    constructor
    · intro ha
      by_cases hat : a ∈ taken
      · exact .inl hat
      · exact .inr ⟨ha, by simpa using hat⟩
    · rintro (ha | ha)
      · exact hs a ha
      · exact ha.1

theorem refLoop_sorted {bs : List Bnd} {rs : List Int} {best : List Nat} {l : List (Int × Int)} (hb : best.Nodup) (hl : l.Perm (best.map (spanOf bs rs))) (hs : l.Pairwise spanLe) :
    ∀ (m : Nat) (taken : List Nat) (out : List Int) (left : Int), taken.Nodup → (∀ k ∈ taken, k ∈ best) → taken.length + m = best.length → taken.map (spanOf bs rs) = l.take taken.length → out.Pairwise (· ≤ ·) →
      (refLoop bs rs best m taken out left).Pairwise (· ≤ ·) ∧ (refLoop bs rs best m taken out left).Perm (out ++ takeIds (l.drop taken.length) left)
  | 0, taken, out, left, h1, h2, h3, h4, h5 => by
    have hlen := hl.length_eq
    rw [List.length_map] at hlen
    rw [List.drop_eq_nil_of_le (by omega)]
    simpa [refLoop, takeIds] using h5
  | m + 1, taken, out, left, h1, h2, h3, h4, h5 => by
    have hlen := hl.length_eq
    rw [List.length_map] at hlen
    obtain ⟨k, hk, hkb, hkt⟩ := next_some (bs := bs) (rs := rs) (taken := taken) hb (by omega)
    have hlt : taken.length < l.length := by omega
    have hmin := (next_least hk).2
    have hkey : spanOf bs rs k = l[taken.length] := by
      have hp := (perm_taken hb h1 h2).map (spanOf bs rs)
      rw [List.map_append, h4] at hp
      have hp2 := hl.trans hp
      have hsplit : l = l.take taken.length ++ l.drop taken.length := (List.take_append_drop _ _).symm
      have hp3 : (l.drop taken.length).Perm ((best.filter fun k => decide (k ∉ taken)).map (spanOf bs rs)) := by
        refine (List.perm_append_left_iff (l.take taken.length)).1 ?_
        rw [← hsplit]; exact hp2
      have hd : l.drop taken.length = l[taken.length] :: l.drop (taken.length + 1) := List.drop_eq_getElem_cons hlt
      have hin : spanOf bs rs k ∈ l.drop taken.length := hp3.mem_iff.2 (List.mem_map_of_mem (List.mem_filter.2 ⟨hkb, by simpa using hkt⟩))
      have hhead : l[taken.length] ∈ (best.filter fun k => decide (k ∉ taken)).map (spanOf bs rs) := hp3.mem_iff.1 (by rw [hd]; exact List.mem_cons_self ..)
      obtain ⟨j, hj, hje⟩ := List.mem_map.1 hhead
      obtain ⟨hj1, hj2⟩ := List.mem_filter.1 hj
      have hle1 := hmin j hj1 (by simpa using hj2)
      rw [hje] at hle1
      have hsd : (l.drop taken.length).Pairwise spanLe := hs.sublist (List.drop_sublist _ _)
      rw [hd] at hsd hin
      rcases List.mem_cons.1 hin with he | hin
      · exact he
      · exact spanLe_anti hle1 ((List.pairwise_cons.1 hsd).1 _ hin)
    rw [List.drop_eq_getElem_cons hlt]
    simp only [refLoop, hk, takeIds]
    have e1 : (l[taken.length]).2 = rowsOfZ rs k := by rw [← hkey]; rfl
    have e2 : (l[taken.length]).1 = idAt bs k := by rw [← hkey]; rfl
    rw [e1, e2]
    split
    · simpa using h5
    · have ih := refLoop_sorted hb hl hs m (taken ++ [k]) (putZ (idAt bs k) out) (left - rowsOfZ rs k) (by
          refine List.nodup_append.2 ⟨h1, by simp, fun a ha b hbb => ?_⟩
          simp at hbb; subst hbb; rintro rfl; exact hkt ha) (by
          intro x hx
          rcases List.mem_append.1 hx with hx | hx
          · exact h2 x hx
          · simp at hx; subst hx; exact hkb) (by simp; omega) (by
          rw [List.map_append, h4, List.length_append, List.length_singleton, take_snoc hlt, ← hkey]; rfl) (putZ_sorted _ h5)
      rw [List.length_append, List.length_singleton] at ih
      refine ⟨ih.1, ih.2.trans ?_⟩
      refine ((putZ_perm (idAt bs k) out).append_right _).trans ?_
      exact (List.perm_middle (a := idAt bs k) (l₁ := out)).symm

theorem chosen_eq {bs : List Bnd} {rs : List Int} {budget : Int} {y : List Int} (h : Chosen bs rs budget y) : y = refChoose bs rs budget := by
  obtain ⟨l, hl, hs, hy⟩ := h
  obtain ⟨hin, hnd, _⟩ := refBest_in bs bs.length (Nat.le_refl _)
  obtain ⟨h1, h2⟩ := refLoop_sorted hnd hl hs (refBest bs bs.length).1.length [] [] budget (by simp) (by simp) (by simp) (by simp) (by simp)
  simp only [List.length_nil, List.drop_zero, List.nil_append] at h2
  simp only [refChoose]
  rw [h2.length_eq]
  split at hy
  · rename_i hc; rw [if_pos hc]; exact hy
  · rename_i hc
    rw [if_neg hc]
    exact List.Perm.eq_of_pairwise (le := (· ≤ ·)) (fun a b _ _ h1 h2 => Int.le_antisymm h1 h2) hy.2 h1 (hy.1.trans h2.symm)

/- WHAT IS CHOSEN HOLDS ONE KEY, AND KEEPS THE BUDGET -/
theorem refBest_at (bs : List Bnd) : ∀ n j, (refBest bs n).2 = some j → (refBest bs n).1 = hitsAt bs j
  | 0, j, h => by simp [refBest] at h
  | n + 1, j, h => by
    rw [refBest_succ] at h ⊢
    unfold bestStep at h ⊢
    split at h
    · rename_i hb; rw [if_pos hb]; simp at h; subst h; rfl
    · rename_i hb; rw [if_neg hb]; exact refBest_at bs n j h

def takeSpans : List (Int × Int) → Int → List (Int × Int)
  | [], _ => []
  | x :: r, b => if b < x.2 then [] else x :: takeSpans r (b - x.2)
theorem takeSpans_ids : ∀ (l : List (Int × Int)) (b : Int), takeIds l b = (takeSpans l b).map Prod.fst
  | [], _ => rfl
  | x :: r, b => by
    simp only [takeIds, takeSpans]
    split
    · rfl
    · simp [takeSpans_ids r]
theorem takeSpans_sub : ∀ (l : List (Int × Int)) (b : Int), (takeSpans l b).Sublist l
  | [], _ => by simp [takeSpans]
  | x :: r, b => by
    simp only [takeSpans]
    split
    · exact List.nil_sublist _
    · exact List.Sublist.cons_cons x (takeSpans_sub r _)
def sumZ : List (Int × Int) → Int
  | [] => 0
  | x :: r => x.2 + sumZ r
theorem takeSpans_sum : ∀ (l : List (Int × Int)) (b : Int), takeSpans l b ≠ [] → sumZ (takeSpans l b) ≤ b
  | [], _, h => by simp [takeSpans] at h
  | x :: r, b, h => by
    simp only [takeSpans] at h ⊢
    split
    · rename_i hc; simp [hc] at h
    · rename_i hc
      simp only [sumZ]
      by_cases hr : takeSpans r (b - x.2) = []
      · rw [hr]; simp [sumZ]; omega
      · have := takeSpans_sum r (b - x.2) hr; omega
theorem sumZ_perm {l m : List (Int × Int)} (h : l.Perm m) : sumZ l = sumZ m := by
  induction h with
  | nil => rfl
  | cons x _ ih => simp only [sumZ, ih]
  | swap x y l => simp only [sumZ]; omega
  | trans _ _ ih1 ih2 => exact ih1.trans ih2

/-- the rows of those among the first n whose id is chosen -/
def sumSel (bs : List Bnd) (rs : List Int) (y : List Int) : Nat → Int
  | 0 => 0
  | n + 1 => sumSel bs rs y n + if idAt bs n ∈ y then rowsOfZ rs n else 0
theorem sumSel_mono (bs : List Bnd) (rs : List Int) (y : List Int) {n : Nat} : ∀ {m : Nat}, n ≤ m → sumSel bs rs y n ≤ sumSel bs rs y m
  | 0, h => by have : n = 0 := by omega
               subst this; exact Int.le_refl _
  | m + 1, h => by
    by_cases hh : n = m + 1
    · subst hh; exact Int.le_refl _
    · have := sumSel_mono bs rs y (n := n) (m := m) (by omega)
      have := rowsOfZ_pos rs m
      simp only [sumSel]
      split <;> omega
theorem sumZ_append (a b : List (Int × Int)) : sumZ (a ++ b) = sumZ a + sumZ b := by
  induction a with
  | nil => simp [sumZ]
  | cons x a ih => simp only [List.cons_append, sumZ, ih]; omega
theorem sumSel_eq (bs : List Bnd) (rs : List Int) (y : List Int) : ∀ n, sumSel bs rs y n = sumZ (((List.range n).filter fun i => decide (idAt bs i ∈ y)).map (spanOf bs rs))
  | 0 => rfl
  | n + 1 => by
    rw [List.range_succ, List.filter_append, List.map_append, sumZ_append, ← sumSel_eq bs rs y n]
    simp only [sumSel, List.filter_cons, List.filter_nil]
    split
    · rename_i h; simp [h, sumZ, spanOf]
    · rename_i h; simp [h, sumZ]

theorem chosen_facts {bs : List Bnd} {rs : List Int} {budget : Int} {y : List Int} (h : Chosen bs rs budget y) (hy : y ≠ []) (hd : ∀ i j (hi : i < bs.length) (hj : j < i), bs[j].id ≠ bs[i].id) :
    (∃ key, ∀ (i : Nat) (hi : i < bs.length), bs[i].id ∈ y → hit bs[i] key = true) ∧ sumSel bs rs y bs.length ≤ budget := by
  obtain ⟨l, hl, hs, hy2⟩ := h
  obtain ⟨hin, hnd, _⟩ := refBest_in bs bs.length (Nat.le_refl _)
  have hinj : ∀ i j, i < bs.length → j < bs.length → idAt bs i = idAt bs j → i = j := by
    intro i j hi hj he
    simp only [idAt, List.getElem?_eq_getElem hi, List.getElem?_eq_getElem hj] at he
    rcases Nat.lt_trichotomy i j with h | h | h
    · exact absurd he (hd j i hj h)
    · exact h
    · exact absurd he.symm (hd i j hi h)
  split at hy2
  · exact absurd hy2 hy
  rename_i hlen
  obtain ⟨hp, _⟩ := hy2
  rw [takeSpans_ids] at hp
  have hsub := takeSpans_sub l budget
  have hmem : ∀ x ∈ takeSpans l budget, ∃ i, i ∈ (refBest bs bs.length).1 ∧ spanOf bs rs i = x := fun x hx => by
    obtain ⟨i, hi, he⟩ := List.mem_map.1 (hl.mem_iff.1 (hsub.subset hx))
    exact ⟨i, hi, he⟩
  have hsel : ∀ i, i < bs.length → idAt bs i ∈ y → i ∈ (refBest bs bs.length).1 ∧ spanOf bs rs i ∈ takeSpans l budget := by
    intro i hi hiy
    obtain ⟨x, hx, hxe⟩ := List.mem_map.1 (hp.mem_iff.1 hiy)
    obtain ⟨j, hj, hje⟩ := hmem x hx
    have : i = j := hinj i j hi (hin j hj) (by rw [← hxe, ← hje]; rfl)
    subst this
    exact ⟨hj, by rw [hje]; exact hx⟩
  constructor
  · cases hat : (refBest bs bs.length).2 with
    | none =>
      have := refBest_none bs bs.length hat
      rw [this] at hl
      have hl2 := hl.length_eq
      simp at hl2
      subst hl2
      simp [takeIds] at hlen
    | some j =>
      refine ⟨mnAt bs j, fun i hi hiy => ?_⟩
      have := (hsel i hi (by simpa [idAt, hi] using hiy)).1
      rw [refBest_at bs bs.length j hat] at this
      obtain ⟨_, b, hb, hh⟩ := mem_hitsTo.1 this
      rw [List.getElem?_eq_getElem hi] at hb
      simp at hb; subst hb; exact hh
  · rw [sumSel_eq]
    have hne : takeSpans l budget ≠ [] := by
      intro he
      rw [takeSpans_ids, he] at hlen; simp at hlen
    refine Int.le_trans (Int.le_of_eq ?_) (takeSpans_sum l budget hne)
    refine sumZ_perm ?_
    have hfinj : ∀ i j, i < bs.length → j < bs.length → spanOf bs rs i = spanOf bs rs j → i = j := fun i j hi hj he => hinj i j hi hj (congrArg Prod.fst he)
    have nd : ∀ m : List Nat, m.Nodup → (∀ k ∈ m, k < bs.length) → (m.map (spanOf bs rs)).Nodup := by
      intro m
      induction m with
      | nil => simp
      | cons x m ih =>
        intro hm hk
        obtain ⟨h1, h2⟩ := List.nodup_cons.1 hm
        refine List.nodup_cons.2 ⟨fun hx => ?_, ih h2 fun k hkm => hk k (List.mem_cons_of_mem _ hkm)⟩
        obtain ⟨z, hz, he⟩ := List.mem_map.1 hx
        have := hfinj z x (hk z (List.mem_cons_of_mem _ hz)) (hk x (List.mem_cons_self ..)) he
        subst this; exact h1 hz
    refine (List.perm_ext_iff_of_nodup (nd _ (List.nodup_range.filter _) fun k hk => List.mem_range.1 (List.mem_filter.1 hk).1) (List.Nodup.sublist hsub ((hl.nodup_iff).2 (nd _ hnd hin)))).2 fun x => ?_
    constructor
    · intro hx
      obtain ⟨i, hi, rfl⟩ := List.mem_map.1 hx
      obtain ⟨h1, h2⟩ := List.mem_filter.1 hi
      exact (hsel i (List.mem_range.1 h1) (by simpa using h2)).2
    · intro hx
      obtain ⟨i, hi, rfl⟩ := hmem x hx
      refine List.mem_map_of_mem (List.mem_filter.2 ⟨List.mem_range.2 (hin i hi), ?_⟩)
      have : idAt bs i ∈ y := hp.mem_iff.2 (List.mem_map.2 ⟨_, hx, rfl⟩)
      simpa using this

theorem cmpB_pos : ∀ a b : List UInt8, 0 < cmpB a b ↔ cmpB b a < 0
  | [], [] => by simp [Lib.compareBytes]
  | [], _ :: _ => by simp [Lib.compareBytes]
  | _ :: _, [] => by simp [Lib.compareBytes]
  | a :: as, b :: bs => by
    simp only [cmpB, Lib.compareBytes]
    have ih := cmpB_pos as bs
    by_cases h1 : a < b
    · have h2 : ¬ b < a := fun h => by rw [UInt8.lt_iff_toNat_lt] at h h1; omega
      simp [h1, h2]
    · by_cases h2 : b < a
      · simp [h1, h2]
      · simp only [h1, h2, if_false]; exact ih
theorem cmpB_trans : ∀ a b c : List UInt8, cmpB a b ≤ 0 → cmpB b c ≤ 0 → cmpB a c ≤ 0
  | [], _, [], _, _ => by simp [Lib.compareBytes]
  | [], _, _ :: _, _, _ => by simp [Lib.compareBytes]
  | _ :: _, [], _, h, _ => by simp [Lib.compareBytes] at h
  | _ :: _, _ :: _, [], _, h => by simp [Lib.compareBytes] at h
  | a :: as, b :: bs, c :: cs, h1, h2 => by
    simp only [cmpB, Lib.compareBytes, UInt8.lt_iff_toNat_lt] at h1 h2 ⊢
    have ih := cmpB_trans as bs cs
    by_cases p1 : a.toNat < b.toNat
    · by_cases p2 : b.toNat < c.toNat
      · rw [if_pos (by omega)]; omega
      · rw [if_neg p2] at h2
        split at h2
        · omega
        · rw [if_pos (by omega)]; omega
    · rw [if_neg p1] at h1
      split at h1
      · omega
      · have : a.toNat = b.toNat := by omega
        by_cases p2 : b.toNat < c.toNat
        · rw [if_pos (by omega)]; omega
        · rw [if_neg p2] at h2
          split at h2
          · omega
          · rw [if_neg (by omega), if_neg (by omega)]
            exact ih h1 h2
theorem cmpB_nil (a : List UInt8) : cmpB [] a ≤ 0 := by cases a <;> simp [Lib.compareBytes]
end Go.Ab.Fs
