/- MergeChooses: the whole call. -/
import Derived.Test.YtpphdocfglmffaaGreatDoorMc7
set_option linter.unusedVariables false
set_option linter.unusedSimpArgs false
namespace Go.Ab.Fs
open Go.IntWalk
set_option linter.unusedSimpArgs false
set_option linter.unusedVariables false
variable {O : Orc}

theorem alive_spec {h : Hp} {K : V → Hp → Prop} (hA : ∀ h R, R (.bool true) h → O N_stoalaw24_alive [] h R) (k : run (K (.bool true) h)) : callW (A O) N_stoalaw24_alive [] h K :=
  orc_spec a_stoalaw24_alive (hA h _ k)

theorem mergeChooses_walk {h : Hp} {a r : V} {bs : List Bnd} {rs : List Int} {budget : Int} (hA : ∀ h R, R (.bool true) h → O N_stoalaw24_alive [] h R) (hO : SortsKnown O) (ok : h.ok) (ha : Bnds h.obj a bs) (hr : Ints h.obj r rs)
    (hl : bs.length ≤ 1073741824) (hbl : ∀ b ∈ bs, b.mn.length ≤ 1073741824 ∧ b.mx.length ≤ 1073741824) (hb : -9223372036854775808 ≤ budget ∧ budget ≤ 9223372036854775807) :
    callW (A O) N_stoalaw24_MergeChooses [a, r, .int .i64 budget] h fun v _ => v = .bool true := by
  refine callW_enter a_stoalaw24_MergeChooses ?_
  simp [F_stoalaw24_MergeChooses]
  refine alive_spec hA ?_
  simp
  refine twin_spec ok ha hl hbl ?_
  intro mine k1 hm1 ok1 le1
  simp
  have rl1 := le1.rle ok
  refine choose_spec hO ok1 hm1 (hr.mono rl1) hl hb ?_
  intro x k2 y hy hx ok2 le2
  have le12 := le1.trans le2
  have rl2 := le12.rle ok
  have ha2 := ha.mono rl2 (fun _ _ => monoBd _ _ _ _ rl2)
  simp
  refine refChoose_spec ok2 ha2 (hr.mono rl2) hl hb ?_
  intro z k3 hz ok3 le3
  have hx3 := hx.mono (le3.rle ok2)
  have le123 := le12.trans le3
  have rl3 := le123.rle ok
  have ha3 := ha.mono rl3 (fun _ _ => monoBd _ _ _ _ rl3)
  have rl13 := (le2.trans le3).rle ok1
  have hm3 := hm1.mono rl13 (fun _ _ => monoBd _ _ _ _ rl13)
  simp
  refine sameInts_spec hx3 hz ?_
  simp [chosen_eq hy]
  refine same22_spec hm3 ha3 ?_
  simp
  have hxl := hx3.lenV
  simp [hxl]
  refine iffW_dec (fun h0 => ?_) (fun h0 => ?_)
  · simp
  have hy0 : y ≠ [] := h0
  have hy2 : 2 ≤ y.length := by
    have := chosen_eq hy
    rw [this] at hy0 ⊢
    simp only [refChoose] at hy0 ⊢
    split
    · rename_i hc; rw [if_pos hc] at hy0; simp at hy0
    · omega
  simp [hxl]
  refine iffW_dec (fun h1 => by omega) (fun h1 => ?_)
  simp [h1]
  refine check22_spec ha3 ?_
  intro c hc
  simp [h1]
  refine iffW_ndec (fun hne => ?_) (fun he => ?_)
  · simp [hxl]
    show (2 : Int) ≤ y.length
    omega
  have hd := hc he
  obtain ⟨⟨key, hkey⟩, hsum⟩ := chosen_facts hy hy0 hd
  simp [ha3.lenV]
  have hne : Byts (k3.new (.sto [] [] 0 none)).obj (.slc k3.nx 0 0 0 0 1) [] := (GrowR.empty layB 1 k3).slr
  refine loop_rule (I := fun n e k => ∃ (i : Nat) (m : V) (mb : List UInt8), n = bs.length - i ∧ i ≤ bs.length ∧ k.ok ∧ k3.le k ∧ Byts k.obj m mb ∧ (∀ j (hj : j < bs.length), j < i → bs[j].id ∈ y → cmpB bs[j].mn mb ≤ 0) ∧ (mb = [] ∨ ∃ j, ∃ hj : j < bs.length, bs[j].id ∈ y ∧ mb = bs[j].mn) ∧
      e 0 = a ∧ e 1 = r ∧ e 8 = x ∧ e 9 = m ∧ e 10 = .int .i64 (budget - sumSel bs rs y i) ∧ e 53 = a ∧ e 54 = .int .i64 bs.length ∧ e 55 = .int .i64 i) ?_ bs.length _ _
    ⟨0, .slc k3.nx 0 0 0 0 1, [], by simp, by simp, ok3.new _, Hp.le_new _ _, hne, by simp, .inl rfl, by simp, by simp, by simp, by simp, by simp [sumSel], by simp, by simp, by simp⟩
  rintro n e k ⟨i, m, mb, rfl, hi, okk, lek, hm, hmx, hmo, q0, q1, q8, q9, q10, q53, q54, q55⟩ N R X hN hR hX
  have rlk := lek.rle ok3
  have hak := ha3.mono rlk (fun _ _ => monoBd _ _ _ _ rlk)
  simp (disch := omega) [q53, q54, q55]
  refine iffW_dec (fun hlt => ?_) (fun hge => ?_)
  · obtain ⟨p, q, hp, hq, crow, _, _, _⟩ := Bnds.get hak (List.getElem?_eq_getElem hlt)
    have lp := hp.isleaf
    have lr := hq.isleaf
    simp (disch := omega) [q53, q55, hak.idx, crow, lp, lr]
    have okn := okk.new (.sto [.int .i64 bs[i].id, p, q] [] 0 none)
    have len := Hp.le_new k (.sto [.int .i64 bs[i].id, p, q] [] 0 none)
    have vn := var_new k [.int .i64 bs[i].id, p, q]
    have rn := len.rle okk
    generalize hk1 : k.new _ = k4 at *
    have le4 := lek.trans len
    have rl4 := le4.rle ok3
    simp [q8, vn.load]
    refine has_spec (hx3.mono rl4) ?_
    simp
    have hid : idAt bs i = bs[i].id := by simp [idAt, hlt]
    refine iffW_dec (fun hin => ?_) (fun hin => ?_)
    · have hsucc : sumSel bs rs y (i + 1) = sumSel bs rs y i + rowsOfZ rs i := by simp [sumSel, hid, hin]
      have hmono := sumSel_mono bs rs y (n := i + 1) (m := bs.length) (by omega)
      have hmono0 : 0 ≤ sumSel bs rs y i := by have := sumSel_mono bs rs y (n := 0) (m := i) (by omega); simpa [sumSel] using this
      have hpos := rowsOfZ_pos rs i
      have hrk := (hr.mono rl3).mono rl4
      simp [q9, vn.load]
      refine order_spec (hp.mono rn) (hm.mono rn) ?_
      simp
      refine iffW_join (M := fun e h => ∃ m2 mb2, k4 = h ∧ Byts k4.obj m2 mb2 ∧ (∀ j (hj : j < bs.length), j < i + 1 → bs[j].id ∈ y → cmpB bs[j].mn mb2 ≤ 0) ∧ (mb2 = [] ∨ ∃ j, ∃ hj : j < bs.length, bs[j].id ∈ y ∧ mb2 = bs[j].mn) ∧
          e 0 = a ∧ e 1 = r ∧ e 8 = x ∧ e 9 = m2 ∧ e 10 = .int .i64 (budget - sumSel bs rs y i) ∧ e 11 = .int .i64 i ∧ e 53 = a ∧ e 54 = .int .i64 bs.length ∧ e 55 = .int .i64 i) ?_ ?_
      · rintro e3 _ ⟨m2, mb2, rfl, hm2, hmx2, hmo2, p0, p1, p8, p9, p10, p11, p53, p54, p55⟩
        simp [p1, p11, hrk.lenV]
        refine iffW_dec (fun hlt2 => ?_) (fun hge2 => ?_)
        · have hxr := hrk.get (List.getElem?_eq_getElem hlt2)
          have hrw : rowsOfZ rs i = if 1 < rs[i] then rs[i] else 1 := by simp [rowsOfZ, hlt2]
          simp (disch := omega) [p1, p11, hrk.idx, hxr, hlt2]
          refine iffW_dec (fun h1r => ?_) (fun h1r => ?_)
          · rw [if_pos h1r] at hrw
            simp (disch := omega) [p1, p10, p11, hrk.idx, hxr]
            refine iffW_dec (fun hh => by omega) (fun hh => ?_)
            simp (disch := omega) [p10, p55, i64_in]
            exact hN _ _ _ (by omega) ⟨i + 1, m2, mb2, rfl, by omega, okn, le4, hm2, hmx2, hmo2, by simp [p0], by simp [p1], by simp [p8], by simp [p9], by simp [hsucc, hrw]; omega, by simp [p53], by simp [p54], by simp⟩
          · rw [if_neg h1r] at hrw
            simp (disch := omega) [p10]
            refine iffW_dec (fun hh => by omega) (fun hh => ?_)
            simp (disch := omega) [p10, p55, i64_in]
            exact hN _ _ _ (by omega) ⟨i + 1, m2, mb2, rfl, by omega, okn, le4, hm2, hmx2, hmo2, by simp [p0], by simp [p1], by simp [p8], by simp [p9], by simp [hsucc, hrw]; omega, by simp [p53], by simp [p54], by simp⟩
        · have hrw : rowsOfZ rs i = 1 := by simp [rowsOfZ, List.getElem?_eq_none (show rs.length ≤ i by omega)]
          simp (disch := omega) [hge2, p10]
          refine iffW_dec (fun hh => by omega) (fun hh => ?_)
          simp (disch := omega) [p10, p55, i64_in]
          exact hN _ _ _ (by omega) ⟨i + 1, m2, mb2, rfl, by omega, okn, le4, hm2, hmx2, hmo2, by simp [p0], by simp [p1], by simp [p8], by simp [p9], by simp [hsucc, hrw]; omega, by simp [p53], by simp [p54], by simp⟩
      · intro N2 hN2
        refine iffW_dec (fun hgt => ?_) (fun hngt => ?_)
        · simp [vn.load]
          refine hN2 _ _ ⟨p, bs[i].mn, rfl, hp.mono rn, ?_, .inr ⟨i, hlt, hin, rfl⟩, by simp [q0], by simp [q1], by simp [q8], by simp, by simp [q10], by simp, by simp [q53], by simp [q54], by simp [q55]⟩
          intro j hj hji hjy
          by_cases hh : j = i
          · subst hh
            have := cmpB_pos bs[j].mn bs[j].mn
            omega
          · have h1 := hmx j hj (by omega) hjy
            have h2 := (cmpB_pos _ _).1 hgt
            exact cmpB_trans _ _ _ h1 (by omega)
        · simp only [run_skip]
          refine hN2 _ _ ⟨m, mb, rfl, hm.mono rn, ?_, hmo, by simp [q0], by simp [q1], by simp [q8], by simp [q9], by simp [q10], by simp, by simp [q53], by simp [q54], by simp [q55]⟩
          intro j hj hji hjy
          by_cases hh : j = i
          · subst hh; omega
          · exact hmx j hj (by omega) hjy
    · simp (disch := omega) [q55, hin, i64_in]
      refine hN _ _ _ (by omega) ⟨i + 1, m, mb, rfl, by omega, okn, le4, hm.mono rn, ?_, hmo, by simp [q0], by simp [q1], by simp [q8], by simp [q9], by simp [q10, sumSel, hid, hin], by simp [q53], by simp [q54], by simp⟩
      intro j hj hji hjy
      by_cases hh : j = i
      · subst hh; exact absurd hjy hin
      · exact hmx j hj (by omega) hjy
  · simp
    refine hX _ _ _ ?_
    have hi2 : i = bs.length := by omega
    subst hi2
    simp [q0, hak.lenV]
    refine loop_rule (I := fun n e k2 => ∃ (i : Nat), n = bs.length - i ∧ i ≤ bs.length ∧ k2.ok ∧ k.le k2 ∧ e 8 = x ∧ e 9 = m ∧ e 93 = a ∧ e 94 = .int .i64 bs.length ∧ e 95 = .int .i64 i) ?_ bs.length _ _
      ⟨0, by simp, by simp, okk, Hp.le.refl _, by simp [q8], by simp [q9], by simp [q0], by simp, by simp⟩
    clear hX hN hR X R N
    rintro n e k5 ⟨i, rfl, hi, ok5, le5, p8, p9, p93, p94, p95⟩ N R X hN hR hX
    have rl5 := le5.rle okk
    have hak5 := hak.mono rl5 (fun _ _ => monoBd _ _ _ _ rl5)
    simp (disch := omega) [p93, p94, p95]
    refine iffW_dec (fun hlt => ?_) (fun hge => ?_)
    · obtain ⟨p, q, hp, hq, crow, _, _, _⟩ := Bnds.get hak5 (List.getElem?_eq_getElem hlt)
      have lp := hp.isleaf
      have lr := hq.isleaf
      simp (disch := omega) [p93, p95, hak5.idx, crow, lp, lr]
      have okn := ok5.new (.sto [.int .i64 bs[i].id, p, q] [] 0 none)
      have len := Hp.le_new k5 (.sto [.int .i64 bs[i].id, p, q] [] 0 none)
      have vn := var_new k5 [.int .i64 bs[i].id, p, q]
      have rn := len.rle ok5
      generalize hk1 : k5.new _ = k6 at *
      have le6 := (lek.trans le5).trans len
      have rl6 := le6.rle ok3
      have hm6 := (hm.mono rl5).mono rn
      simp [p8, vn.load]
      refine has_spec (hx3.mono rl6) ?_
      simp
      have next : ∀ e4 : Env, e4 8 = x → e4 9 = m → e4 93 = a → e4 94 = .int .i64 bs.length → e4 95 = .int .i64 (i + 1) → run (N e4 k6) := fun e4 z8 z9 z93 z94 z95 =>
        hN _ _ _ (by omega) ⟨i + 1, rfl, by omega, okn, le5.trans len, z8, z9, z93, z94, by simp [z95]⟩
      refine iffW_dec (fun hin => ?_) (fun hin => ?_)
      · have hh := hkey i hlt hin
        simp only [hit, Bool.and_eq_true, decide_eq_true_eq] at hh
        have hle1 : cmpB bs[i].mn mb ≤ 0 := hmx i hlt hlt hin
        have hle2 : cmpB mb bs[i].mx ≤ 0 := by
          rcases hmo with rfl | ⟨j, hj, hjy, rfl⟩
          · exact cmpB_nil _
          · have hh2 := hkey j hj hjy
            simp only [hit, Bool.and_eq_true, decide_eq_true_eq] at hh2
            exact cmpB_trans _ _ _ hh2.1 hh.2
        simp [hin, p9, vn.load]
        refine order_spec (hp.mono rn) hm6 ?_
        simp
        refine iffW_dec (fun hbad => by omega) (fun hgood => ?_)
        simp [hin, hgood, p9, vn.load]
        refine order_spec hm6 (hq.mono rn) ?_
        simp [hin, hgood]
        refine iffW_dec (fun hbad => by omega) (fun hgood2 => ?_)
        simp (disch := omega) [p95, i64_in]
        exact next _ (by simp [p8]) (by simp [p9]) (by simp [p93]) (by simp [p94]) (by simp)
      · simp (disch := omega) [hin, p95, i64_in]
        exact next _ (by simp [p8]) (by simp [p9]) (by simp [p93]) (by simp [p94]) (by simp)
    · simp
      refine hX _ _ _ ?_
      simp
end Go.Ab.Fs
