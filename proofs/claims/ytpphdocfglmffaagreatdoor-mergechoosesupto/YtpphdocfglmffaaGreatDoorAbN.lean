/- Writing into a storage; a storage that grows. -/
import Derived.Test.YtpphdocfglmffaaGreatDoorAbM
set_option linter.unusedVariables false
set_option linter.unusedSimpArgs false
namespace Go.Ab
open Go.RowKit (Below)

section
variable {P : Program} {ι : Inj} {w : World} {h : Hp} {e : Env} {ρ : Operand → Value}

theorem wrAt_some {cells : List V} {old : List Nat} {dirty : Nat} {esz : Option Nat} {g o : Nat} {vs : List V} {ob : Ob} (hw : wrAt cells old dirty esz g o vs = some ob) :
    g = old.length ∧ o + vs.length ≤ cells.length ∧ vs.all V.leaf = true ∧ ob = .sto (over cells o vs) old (if old.length = 0 then dirty else old.length) esz := by
  unfold wrAt at hw
  split at hw
  · rename_i hh; simp only [Option.some.injEq] at hw; exact ⟨hh.1, hh.2.1, hh.2.2, hw.symm⟩
  · simp at hw

/-- the cells of the last generation are written, in the heap and in the world -/
theorem write_rel (hR : Rel ι h w) {s g : Nat} {L : Loc} {cells : List V} {old : List Nat} {dirty : Nat} {esz : Option Nat} {o : Nat} {vs : List V} {cs : List Value} {ob : Ob} (hL : ι.st s g = some L) (hb : L.base ≤ o)
    (ho : h.obj s = some (.sto cells old dirty esz)) (hw : wrAt cells old dirty esz g o vs = some ob) (hv : VRs ι vs cs) :
    ∃ w', (storeCells ⟨L.cb, L.coff + (o - L.base), none⟩ cs).run P w = .ok () w' ∧ Rel ι (h.set s ob) w' ∧ Ext ι h w ι (h.set s ob) w' := by
  obtain ⟨rfl, hlen, hleaf, rfl⟩ := wrAt_some hw
  obtain ⟨hs1, hcb, hst⟩ := hR.st _ _ L hL
  obtain ⟨hro0, he, c, el, fr, hc, hcsz, hfit, hd, hcur⟩ := hst _ _ _ _ ho
  have hro : L.ro = 0 := by omega
  obtain ⟨hdirty, hfz⟩ := hcur rfl
  obtain ⟨⟨hbs, hbs2⟩, hsz, hcell⟩ := hd hdirty
  have hsz' : L.size = cells.length := by rw [hsz]; simp [genSize]
  have hcl := hv.length
  have hroom : L.coff + (o - L.base) + 0 + cs.length ≤ c.size := by omega
  obtain ⟨w', c', r1, r2, r3, r4, r5, r6, r7, r8, r9, r10⟩ := store_run (P := P) cs 0 c w hc hroom (fun j h1 h2 => by omega) (leafs_rel hv hleaf)
  have hget : ∀ i, c'[i]? = if i < L.coff + (o - L.base) then c[i]? else if i < L.coff + (o - L.base) + cs.length then cs[i - (L.coff + (o - L.base))]? else c[i]? := by
    intro i
    rw [← Array.getElem?_toList, r3]
    simp only [Nat.add_zero]
    by_cases h1 : i < L.coff + (o - L.base)
    · rw [if_pos h1, List.getElem?_append_left (by simp; omega), List.getElem?_take_of_lt h1]; simp
    · rw [if_neg h1]
      by_cases h2 : i < L.coff + (o - L.base) + cs.length
      · rw [if_pos h2, List.getElem?_append_right (by simp; omega), List.getElem?_append_left (by simp; omega)]
        congr 1; simp; omega
      · rw [if_neg h2, List.getElem?_append_right (by simp; omega), List.getElem?_append_right (by simp; omega), List.getElem?_drop]
        rw [Array.getElem?_toList]
        congr 1; simp; omega
  refine ⟨w', r1, ?_, ?_⟩
  · constructor
    · intro s' g' K hk
      obtain ⟨a, b, cc⟩ := hR.st s' g' K hk
      refine ⟨a, by rw [r6]; exact b, ?_⟩
      intro cells' old' dirty' esz' ho'
      simp only [Hp.set] at ho'
      by_cases hss : s' = s
      · subst hss
        simp only [if_true, Option.some.injEq, Ob.sto.injEq] at ho'
        obtain ⟨rfl, rfl, rfl, rfl⟩ := ho'
        obtain ⟨k1, k2, d, el', fr', k3, k4, k5, k6, k7⟩ := cc _ _ _ _ ho
        refine ⟨k1, k2, ?_⟩
        by_cases hcbk : K.cb = L.cb
        · -- the same block
          have hal := (hR.sepw hk hL hcbk hro).2
          rw [hcbk] at k3 ⊢
          rw [hc] at k3
          simp only [Option.some.injEq, Obj.cells.injEq] at k3
          obtain ⟨rfl, rfl, rfl⟩ := k3
          refine ⟨c', _, _, r2, by rw [r4]; exact k4, k5, ?_, ?_⟩
          · intro hdg
            have hg : g' = old.length ∨ old.length = 0 := by
              split at hdg <;> omega
            have hg' : g' = old.length := by omega
            subst hg'
            rw [hL] at hk; simp at hk; subst hk
            refine ⟨⟨hbs, by rw [over_length _ _ _ hlen]; exact hbs2⟩, by simp [genSize, over_length _ _ _ hlen, hsz'], ?_⟩
            intro i v hi1 hi2 hv'
            rw [over_get _ _ _ hlen] at hv'
            rw [hget]
            by_cases h1 : i < o
            · rw [if_pos h1] at hv'
              rw [if_pos (by omega)]
              exact hcell i v hi1 hi2 hv'
            · rw [if_neg h1] at hv'
              rw [if_neg (by omega)]
              by_cases h2 : i < o + vs.length
              · rw [if_pos h2] at hv'
                rw [if_pos (by omega)]
                obtain ⟨d, hd, hvd⟩ := hv.get hv'
                exact ⟨d, by rw [← hd]; congr 1; omega, hvd⟩
              · rw [if_neg h2] at hv'
                rw [if_neg (by omega)]
                exact hcell i v hi1 hi2 hv'
          · intro hg
            subst hg
            refine ⟨?_, (k7 rfl).2⟩
            split
            · exact hdirty
            · exact Nat.le_refl _
        · -- an elder block of the same storage
          refine ⟨d, el', fr', by rw [r5 _ hcbk]; exact k3, k4, k5, ?_, ?_⟩
          · intro hdg
            have hg : g' = old.length ∨ old.length = 0 := by
              split at hdg <;> omega
            have hg' : g' = old.length := by omega
            subst hg'
            rw [hL] at hk; simp at hk; subst hk
            exact absurd rfl hcbk
          · intro hg
            subst hg
            rw [hL] at hk; simp at hk; subst hk
            exact absurd rfl hcbk
      · rw [if_neg hss] at ho'
        refine (cc _ _ _ _ ho').congr (r5 _ ?_)
        intro hcbk
        exact hss (hR.sepw hk hL hcbk hro).1
    · exact hR.sep
    · intro i d hi
      obtain ⟨a, b, o', ho', hor⟩ := hR.ob i d hi
      have hne : i ≠ s := by
        rintro rfl
        rw [ho] at ho'; simp at ho'; subst ho'
        exact hor.elim
      exact ⟨a, by rw [r6]; exact b, o', by simp only [Hp.set, if_neg hne]; exact ho', hor.congr (r5 _ (fun hh => hR.kind _ _ _ _ _ hL hi hh.symm))⟩
    · exact hR.obsep
    · exact hR.kind
    · intro i o' ho'
      simp only [Hp.set] at ho' ⊢
      split at ho'
      · rename_i hh; rw [hh]; exact hs1
      · exact hR.obj i o' ho'
  · refine ⟨Inj.le.refl _, r7, r8, r9, Nat.le_of_eq r10.symm, by rw [r6]; exact Nat.le_refl _, Nat.le_refl _, ?_, ?_, ?_, ?_⟩
    · intro b hb' hro
      have hne : b ≠ L.cb := by
        rintro rfl
        have := hro.1 _ _ _ hL rfl _ _ _ _ ho
        omega
      refine ⟨⟨?_, hro.2⟩, r5 b hne⟩
      intro s' g' K hk hcbk cells' old' dirty' esz' ho'
      simp only [Hp.set] at ho'
      by_cases hss : s' = s
      · subst hss
        simp only [if_true, Option.some.injEq, Ob.sto.injEq] at ho'
        obtain ⟨rfl, rfl, rfl, rfl⟩ := ho'
        exact hro.1 _ _ _ hk hcbk _ _ _ _ ho
      · rw [if_neg hss] at ho'
        exact hro.1 _ _ _ hk hcbk _ _ _ _ ho'
    · intro i hi a b
      have hne : i ≠ s := by rintro rfl; rw [a] at hL; simp at hL
      exact ⟨a, b, by simp [Hp.set, hne]⟩
    · intro s' g' K hk hn; rw [hn] at hk; simp at hk
    · intro i c hk hn; rw [hn] at hk; simp at hk

theorem genSize_old {cells cells' : List V} {old : List Nat} {g : Nat} (hg : g ≤ old.length) : genSize cells' (cells.length :: old) g = genSize cells old g := by
  unfold genSize
  have h1 : ¬ g = (cells.length :: old).length := by simp; omega
  have h2 : g < (cells.length :: old).length := by simp; omega
  rw [if_neg h1, if_pos h2]
  by_cases h : g = old.length
  · rw [if_pos h]; subst h; simp
  · rw [if_neg h, if_pos (by omega)]
    have : (cells.length :: old).length - 1 - g = (old.length - 1 - g) + 1 := by simp; omega
    rw [this]; simp

/-- a storage gets one more generation: in the same block, or in a new one -/
theorem bump_rel (hR : Rel ι h w) {u : World} {s : Nat} {L K : Loc} {cells vs : List V} {old : List Nat} {dirty dirty' p : Nat} {esz : Option Nat}
    (hL : ι.st s old.length = some L) (ho : h.obj s = some (.sto cells old dirty esz)) (hp : p ≤ cells.length)
    (hd : (dirty' = dirty ∧ p = cells.length) ∨ dirty' = old.length + 1)
    (hos : u.os = w.os) (ht : u.tape = w.tape) (hout : u.output = w.output) (hdr : w.drawn ≤ u.drawn) (hsz : w.heap.size ≤ u.heap.size) (hK : K.cb < u.heap.size)
    (hother : ∀ k, k < w.heap.size → k ≠ K.cb → u.heap[k]? = w.heap[k]?)
    (hcase : (K.cb = L.cb ∧ K.coff + L.base = L.coff + K.base ∧ ∃ c c' el fr, w.heap[L.cb]? = some (.cells c el fr) ∧ u.heap[L.cb]? = some (.cells c' el fr) ∧ c'.size = c.size ∧ ∀ i, i < L.coff + (p - L.base) → c'[i]? = c[i]?) ∨ w.heap.size ≤ K.cb)
    (hnew : StoR (ι.addSt s (old.length + 1) K) u (old.length + 1) K (cells.take p ++ vs) (cells.length :: old) dirty' esz) :
    Rel (ι.addSt s (old.length + 1) K) (h.set s (.sto (cells.take p ++ vs) (cells.length :: old) dirty' esz)) u ∧
    Ext ι h w (ι.addSt s (old.length + 1) K) (h.set s (.sto (cells.take p ++ vs) (cells.length :: old) dirty' esz)) u := by
  obtain ⟨hs1, hcb, hst⟩ := hR.st _ _ L hL
  have stL := hst _ _ _ _ ho
  obtain ⟨hro0, _, cL, elL, frL, hcL, hcszL, hfitL, hdL, hcurL⟩ := stL
  have hro : L.ro = 0 := by omega
  obtain ⟨hdirty, hfz⟩ := hcurL rfl
  obtain ⟨⟨hbsL, _⟩, hszL, _⟩ := hdL hdirty
  have hszL' : L.size = cells.length := by rw [hszL]; simp [genSize]
  have hn : ι.st s (old.length + 1) = none := by
    cases hh : ι.st s (old.length + 1) with
    | none => rfl
    | some M => have := ((hR.st _ _ M hh).2.2 _ _ _ _ ho).gen; omega
  have hle := Inj.le_addSt (ι := ι) (L := K) hn
  have hmap : ∀ s' g M, (ι.addSt s (old.length + 1) K).st s' g = some M → (s' = s ∧ g = old.length + 1 ∧ M = K) ∨ ι.st s' g = some M := by
    intro s' g M hk
    simp only [Inj.addSt] at hk
    split at hk
    · rename_i hh; simp at hk; exact .inl ⟨hh.1, hh.2, hk.symm⟩
    · exact .inr hk
  -- what lies elsewhere is as it was
  have helse : ∀ s' g M, ι.st s' g = some M → s' ≠ s → M.cb ≠ K.cb := by
    intro s' g M hk hne hcbk
    rcases hcase with ⟨h1, _⟩ | h1
    · exact hne (hR.sepw hk hL (hcbk.trans h1) hro).1
    · have := (hR.st _ _ M hk).2.1; omega
  refine ⟨?_, ?_⟩
  · constructor
    · intro s' g M hk
      rcases hmap _ _ _ hk with ⟨rfl, rfl, rfl⟩ | hk'
      · refine ⟨hs1, hK, ?_⟩
        intro cells' old' d' e' ho'
        simp only [Hp.set, if_true, Option.some.injEq, Ob.sto.injEq] at ho'
        obtain ⟨rfl, rfl, rfl, rfl⟩ := ho'
        exact hnew
      · obtain ⟨a, b, cc⟩ := hR.st _ _ _ hk'
        refine ⟨a, by omega, ?_⟩
        intro cells' old' d' e' ho'
        simp only [Hp.set] at ho'
        by_cases hss : s' = s
        · subst hss
          simp only [if_true, Option.some.injEq, Ob.sto.injEq] at ho'
          obtain ⟨rfl, rfl, rfl, rfl⟩ := ho'
          obtain ⟨k1, k2, c, el, fr, k3, k4, k5, k6, k7⟩ := cc _ _ _ _ ho
          refine ⟨by simp; omega, k2, ?_⟩
          have hsame : ∃ c' , u.heap[M.cb]? = some (.cells c' el fr) ∧ c'.size = c.size ∧ (M.cb = L.cb → ∀ i, i < L.coff + (p - L.base) → c'[i]? = c[i]?) ∧ (M.cb ≠ L.cb → c' = c) := by
            by_cases hMK : M.cb = K.cb
            · rcases hcase with ⟨h1, _, c1, c1', el1, fr1, h2, h3, h4, h5⟩ | h1
              · have hML : M.cb = L.cb := hMK.trans h1
                rw [hML] at k3 ⊢
                rw [h2] at k3
                simp only [Option.some.injEq, Obj.cells.injEq] at k3
                obtain ⟨rfl, rfl, rfl⟩ := k3
                exact ⟨c1', h3, h4, fun _ => h5, fun hx => absurd rfl hx⟩
              · omega
            · exact ⟨c, by rw [hother _ b hMK]; exact k3, rfl, fun _ _ _ => rfl, fun _ => rfl⟩
          obtain ⟨c', s1, s2, s3, s4⟩ := hsame
          refine ⟨c', el, fr, s1, by rw [s2]; exact k4, k5, ?_, fun hg => by simp at hg; omega⟩
          intro hdg
          rcases hd with ⟨rfl, rfl⟩ | rfl
          · obtain ⟨⟨z1, z4⟩, z2, z3⟩ := k6 hdg
            refine ⟨⟨z1, by simp; omega⟩, by rw [z2, genSize_old (show _ ≤ old.length by omega)], ?_⟩
            intro i v hi1 hi2 hv
            have hi3 : i < cells.length := by omega
            rw [List.take_length, List.getElem?_append_left hi3] at hv
            obtain ⟨d, hd, hvd⟩ := z3 i v hi1 hi2 hv
            refine ⟨d, ?_, VR.mono hle _ _ hvd⟩
            by_cases hML : M.cb = L.cb
            · have := (hR.sepw hk' hL hML hro).2
              rw [s3 hML _ (by omega)]; exact hd
            · rw [s4 hML]; exact hd
          · omega
        · rw [if_neg hss] at ho'
          exact ((cc _ _ _ _ ho').mono hle).congr (hother _ b (helse _ _ _ hk' hss))
    · intro s1 g1 M1 s2 g2 M2 hk1 hk2 hcbk
      rcases hmap _ _ _ hk1 with ⟨rfl, rfl, rfl⟩ | hk3 <;> rcases hmap _ _ _ hk2 with ⟨rfl, rfl, rfl⟩ | hk4
      · exact .inl ⟨rfl, rfl⟩
      · rcases hcase with ⟨h1, h2, _⟩ | h1
        · obtain ⟨a, b⟩ := hR.sepw hk4 hL (h1.symm.trans hcbk).symm hro
          exact .inl ⟨a.symm, by omega⟩
        · have := (hR.st _ _ M2 hk4).2.1; omega
      · rcases hcase with ⟨h1, h2, _⟩ | h1
        · obtain ⟨a, b⟩ := hR.sepw hk3 hL (hcbk.trans h1) hro
          exact .inl ⟨a, by omega⟩
        · have := (hR.st _ _ M1 hk3).2.1; omega
      · exact hR.sep _ _ _ _ _ _ hk3 hk4 hcbk
    · intro i d hi
      obtain ⟨a, b, o', ho', hor⟩ := hR.ob i d hi
      have hne : i ≠ s := by
        rintro rfl
        rw [ho] at ho'; simp at ho'; subst ho'
        exact hor.elim
      have hdk : d ≠ K.cb := by
        rcases hcase with ⟨h1, _⟩ | h1
        · rw [h1]; exact fun hh => hR.kind _ _ _ _ _ hL hi hh.symm
        · omega
      exact ⟨a, by omega, o', by simp only [Hp.set, if_neg hne]; exact ho', (hor.mono hle).congr (hother _ b hdk)⟩
    · exact hR.obsep
    · intro s' g M i d hk hi
      rcases hmap _ _ _ hk with ⟨rfl, rfl, rfl⟩ | hk
      · rcases hcase with ⟨h1, _⟩ | h1
        · rw [h1]; exact hR.kind _ _ _ _ _ hL hi
        · have := (hR.ob i d hi).2.1; omega
      · exact hR.kind _ _ _ _ _ hk hi
    · intro i o' ho'
      simp only [Hp.set] at ho' ⊢
      split at ho'
      · rename_i hh; rw [hh]; exact hs1
      · exact hR.obj i o' ho'
  · refine ⟨hle, hos, ht, hout, hdr, hsz, Nat.le_refl _, ?_, ?_, ?_, ?_⟩
    · intro b hb hro
      have hneL : b ≠ L.cb := by
        rintro rfl
        have := hro.1 _ _ _ hL rfl _ _ _ _ ho
        omega
      have hneK : b ≠ K.cb := by
        rcases hcase with ⟨h1, _⟩ | h1
        · rw [h1]; exact hneL
        · omega
      refine ⟨⟨?_, hro.2⟩, hother b hb hneK⟩
      intro s' g M hk hcbk cells' old' d' e' ho'
      rcases hmap _ _ _ hk with ⟨rfl, rfl, rfl⟩ | hk'
      · exact absurd hcbk.symm hneK
      · simp only [Hp.set] at ho'
        by_cases hss : s' = s
        · subst hss
          simp only [if_true, Option.some.injEq, Ob.sto.injEq] at ho'
          obtain ⟨rfl, rfl, rfl, rfl⟩ := ho'
          have := hro.1 _ _ _ hk' hcbk _ _ _ _ ho
          simp; omega
        · rw [if_neg hss] at ho'
          exact hro.1 _ _ _ hk' hcbk _ _ _ _ ho'
    · intro i hi a b
      have hne : i ≠ s := by rintro rfl; rw [a] at hL; simp at hL
      exact ⟨fun g => by simp [Inj.addSt, hne, a], b, by simp [Hp.set, hne]⟩
    · intro s' g M hk hn' hs'
      rcases hmap _ _ _ hk with ⟨rfl, rfl, rfl⟩ | hk
      · exact ⟨_, _, hL⟩
      · rw [hn'] at hk; simp at hk
    · intro i c hk hn'
      have : ι.ob i = some c := hk
      rw [hn'] at this; simp at this

end
end Go.Ab
