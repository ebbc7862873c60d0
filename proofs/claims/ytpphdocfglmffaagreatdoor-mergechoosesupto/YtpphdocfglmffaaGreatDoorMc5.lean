/- MergeChooses: copies of spans, checks, what is stabbed; the comparison of the sort. -/
import Derived.Test.YtpphdocfglmffaaGreatDoorMc4
set_option linter.unusedVariables false
set_option linter.unusedSimpArgs false
namespace Go.Ab.Fs
open Go.IntWalk
set_option linter.unusedSimpArgs false
set_option linter.unusedVariables false
variable {O : Orc}

theorem loadV_mono {H K : Obs} (hl : RLe H K) {sz : Option Nat} {p v : V} (h : loadV H sz p = some v) : loadV K sz p = some v := by
  cases p <;> simp only [loadV] at h ⊢ <;> try simp at h
  rename_i s g o
  cases sz with
  | none =>
    simp only [rdVar] at h ⊢
    split at h
    · rename_i u hu; rw [hl _ _ _ _ _ hu]; exact h
    · simp at h
  | some n =>
    simp only [rdVar, Option.map_eq_some_iff] at h ⊢
    obtain ⟨vs, hv, rfl⟩ := h
    exact ⟨vs, hl _ _ _ _ _ hv, rfl⟩

theorem twin_spec {h : Hp} {a : V} {bs : List Bnd} {K : V → Hp → Prop} (ok : h.ok) (ha : Bnds h.obj a bs) (hl : bs.length ≤ 1073741824) (hb : ∀ b ∈ bs, b.mn.length ≤ 1073741824 ∧ b.mx.length ≤ 1073741824)
    (k : ∀ b h', Bnds h'.obj b bs → h'.ok → h.le h' → run (K b h')) : callW (A O) N_stoaref22_Twin [a] h K := by
  refine callW_enter a_stoaref22_Twin ?_
  simp (disch := omega) [F_stoaref22_Twin]
  refine loop_rule (I := fun n e k => ∃ (i : Nat) (b : V), n = bs.length - i ∧ i ≤ bs.length ∧ GrowR layBd 3 k b (bs.take i) ∧ k.ok ∧ h.le k ∧ Ab.own h b ∧ e 0 = a ∧ e 3 = b ∧ e 4 = .int .i64 i) ?_ bs.length _ _
    ⟨0, .slc h.nx 0 0 0 0 3, by simp, by simp, by simpa using GrowR.empty layBd 3 h, ok.new _, Hp.le_new _ _, .inr (by simp), by simp⟩
  rintro n e k' ⟨i, b, rfl, hi, hg, ok', hle, hown, h0, h3, h4⟩ N R X hN hR hX
  have hrl := hle.rle ok
  have ha' := ha.mono hrl (fun _ _ => monoBd _ _ _ _ hrl)
  simp (disch := omega) [h0, h3, h4, ha'.lenV]
  refine iffW_dec (fun hlt => ?_) (fun hge => ?_)
  · obtain ⟨p, q, hp, hq, _, c0, c1, c2⟩ := Bnds.get ha' (List.getElem?_eq_getElem hlt)
    have hlen := hb _ (List.getElem_mem hlt)
    simp (disch := omega) [h0, h3, h4, ha'.idx, c0, c1, c2]
    refine copy_spec ok' hp (by omega) ?_
    intro p2 k2 hp2 ok2 le2 _
    have r2 := le2.rle ok'
    have d0 := loadV_mono r2 c0
    have d2 := loadV_mono r2 c2
    simp [d0, d2]
    refine copy_spec ok2 (hq.mono r2) (by omega) ?_
    intro q3 k3 hq3 ok3 le3 _
    have r3 := le3.rle ok2
    have f0 := loadV_mono r3 d0
    have hp3 := hp2.le monoB ok2 le3
    simp [f0, hp3.slr.cells, hq3.slr.cells]
    have le23 := le2.trans le3
    have hl13 : hp2.slr.isleaf = hp2.slr.isleaf := rfl
    refine app1_rule monoBd (x := bs[i]) ok3 (hg.le monoBd ok' le23) ⟨p2, q3, rfl, hp3.slr, hq3.slr⟩ rfl (by simp [hp3.slr.isleaf, hq3.slr.isleaf]) (by omega) (by omega) (by simp; omega) ?_
    intro b' h' hg' happ
    simp (disch := omega) [h4, i64_in]
    exact hN _ _ _ (by omega) ⟨i + 1, b', rfl, by omega, by rw [take_snoc hlt]; exact hg', happ.ok, happ.le (hle.trans le23) hown, happ.own (hle.trans le23) hown, by simp [h0], by simp, by simp⟩
  · simp
    refine hX _ _ _ ?_
    simp [h3]
    rw [List.take_of_length_le (by omega)] at hg
    exact k _ _ hg.slr ok' hle

theorem same22_spec {h : Hp} {a b : V} {bs : List Bnd} {K : V → Hp → Prop} (ha : Bnds h.obj a bs) (hb : Bnds h.obj b bs) (k : run (K (.bool true) h)) : callW (A O) N_stoaref22_Same [a, b] h K := by
  refine callW_enter a_stoaref22_Same ?_
  have la := ha.lim
  simp (disch := omega) [F_stoaref22_Same, ha.lenV, hb.lenV]
  refine loop_rule (I := fun n e k => ∃ i : Nat, n = bs.length - i ∧ i ≤ bs.length ∧ h = k ∧ e 0 = a ∧ e 1 = b ∧ e 5 = .int .i64 i) ?_ bs.length _ _ ⟨0, by simp⟩
  rintro n e _ ⟨i, rfl, hi, rfl, h0, h1, h5⟩ N R X hN hR hX
  simp (disch := omega) [h0, h1, h5, ha.lenV]
  refine iffW_dec (fun hlt => ?_) (fun hge => ?_)
  · obtain ⟨p, q, hp, hq, _, c0, c1, c2⟩ := Bnds.get ha (List.getElem?_eq_getElem hlt)
    obtain ⟨p', q', hp', hq', _, d0, d1, d2⟩ := Bnds.get hb (List.getElem?_eq_getElem hlt)
    simp (disch := omega) [h0, h1, h5, ha.idx, hb.idx, c0, c1, c2, d0, d1, d2]
    refine same01_spec hp hp' ?_
    simp (disch := omega) [h0, h1, h5, ha.idx, hb.idx, c0, c1, c2, d0, d1, d2]
    refine same01_spec hq hq' ?_
    simp (disch := omega) [h0, h1, h5, i64_in]
    exact hN _ _ _ (by omega) ⟨i + 1, rfl, by omega, rfl, by simp [h0], by simp [h1], by simp⟩
  · simp
    refine hX _ _ _ ?_
    simpa using k

theorem check22_spec {h : Hp} {a : V} {bs : List Bnd} {K : V → Hp → Prop} (ha : Bnds h.obj a bs)
    (k : ∀ z : Int, (z = 0 → ∀ i j (hi : i < bs.length) (hj : j < i), bs[j].id ≠ bs[i].id) → run (K (.int .i64 z) h)) : callW (A O) N_stoaref22_Check [a] h K := by
  refine callW_enter a_stoaref22_Check ?_
  have la := ha.lim
  simp (disch := omega) [F_stoaref22_Check]
  refine loop_rule (I := fun n e k => ∃ i : Nat, n = bs.length - i ∧ i ≤ bs.length ∧ (∀ i' j (hi : i' < bs.length) (hj : j < i'), i' < i → bs[j].id ≠ bs[i'].id) ∧ h = k ∧ e 0 = a ∧ e 3 = .int .i64 i) ?_ bs.length _ _ ⟨0, by simp⟩
  rintro n e _ ⟨i, rfl, hi, hd, rfl, h0, h3⟩ N R X hN hR hX
  simp (disch := omega) [h0, h3, ha.lenV]
  refine iffW_dec (fun hlt => ?_) (fun hge => ?_)
  · obtain ⟨p, q, hp, hq, _, c0, c1, c2⟩ := Bnds.get ha (List.getElem?_eq_getElem hlt)
    simp (disch := omega) [h0, h3, ha.idx, c1, c2]
    refine order_spec hq hp ?_
    simp
    refine iffW_dec (fun hc => ?_) (fun hc => ?_)
    · simp
      refine hR _ _ ?_
      simpa using k 1 (by simp)
    · simp
      refine loop_rule (I := fun n e k => ∃ j : Nat, n = i - j ∧ j ≤ i ∧ (∀ j' (hj' : j' < bs.length), j' < j → bs[j'].id ≠ bs[i].id) ∧ h = k ∧ e 0 = a ∧ e 3 = .int .i64 i ∧ e 4 = .int .i64 j) ?_ i _ _ ⟨0, by simp, by simp, by simp, rfl, by simp [h0], by simp [h3], by simp⟩
      rintro n e2 _ ⟨j, rfl, hj, hd2, rfl, g0, g3, g4⟩ N2 R2 X2 hN2 hR2 hX2
      simp (disch := omega) [g0, g3, g4]
      refine iffW_dec (fun hlt2 => ?_) (fun hge2 => ?_)
      · obtain ⟨_, _, _, _, _, d0, _, _⟩ := Bnds.get ha (List.getElem?_eq_getElem (show j < bs.length by omega))
        simp (disch := omega) [g0, g3, g4, ha.idx, c0, d0]
        refine iffW_dec (fun he => ?_) (fun he => ?_)
        · simp
          refine hR2 _ _ (hR _ _ ?_)
          simpa using k 192 (by simp)
        · simp (disch := omega) [g0, g3, g4, i64_in]
          refine hN2 _ _ _ (by omega) ⟨j + 1, rfl, by omega, ?_, rfl, by simp [g0], by simp [g3], by simp⟩
          intro j' hj' hlt'
          by_cases hh : j' = j
          · subst hh; exact he
          · exact hd2 j' hj' (by omega)
      · simp
        refine hX2 _ _ _ ?_
        simp (disch := omega) [g3, i64_in]
        refine hN _ _ _ (by omega) ⟨i + 1, rfl, by omega, ?_, rfl, by simp [g0], by simp⟩
        intro i' j' hi' hj' hlt'
        by_cases hh : i' = i
        · subst hh; exact hd2 j' (by omega) (by omega)
        · exact hd i' j' hi' hj' (by omega)
  · simp
    refine hX _ _ _ ?_
    simp
    exact k 0 (fun _ i' j' hi' hj' => hd i' j' hi' hj' (by omega))

/- THE SPANS THAT ARE CHOSEN FROM -/
def spanOf (bs : List Bnd) (rs : List Int) (i : Nat) : Int × Int := (idAt bs i, rowsOfZ rs i)

def minmaxV (m : Bool) (x : V) (rest : List V) : Option V := minmaxs m x rest
@[simp] theorem ev_minmax (e : Env) (m : Bool) (x : Opd) (rest : List Opd) : P1.ev e (.minmax m x rest) = minmaxV m (x.val e) (rest.map (Opd.val e)) := nr rfl
@[simp] theorem minmaxV_max (k : IntKind) (a b : Int) : minmaxV true (.int k a) [.int k b] = some (.int k (if a < b then b else a)) := by simp [minmaxV, minmaxs, minmax]
@[simp] theorem minmaxV_min (k : IntKind) (a b : Int) : minmaxV false (.int k a) [.int k b] = some (.int k (if b < a then b else a)) := by simp [minmaxV, minmaxs, minmax]

theorem stab_spec {h : Hp} {a r q : V} {bs : List Bnd} {rs : List Int} {key : List UInt8} {K : V → Hp → Prop} (ok : h.ok) (ha : Bnds h.obj a bs) (hr : Ints h.obj r rs) (hq : Byts h.obj q key) (hl : bs.length ≤ 1073741824)
    (k : ∀ b h', GrowR layS 2 h' b ((hitsTo bs key bs.length).map (spanOf bs rs)) → h'.ok → h.le h' → Ab.own h b → run (K b h')) : callW (A O) N_merge_stab [a, r, q] h K := by
  refine callW_enter a_merge_stab ?_
  simp (disch := omega) [F_merge_stab, ha.lenV]
  refine loop_rule (I := fun n e k => ∃ (i : Nat) (b : V), n = bs.length - i ∧ i ≤ bs.length ∧ GrowR layS 2 k b ((hitsTo bs key i).map (spanOf bs rs)) ∧ k.ok ∧ h.le k ∧ Ab.own h b ∧ e 1 = r ∧ e 2 = q ∧ e 7 = b ∧ e 11 = a ∧ e 12 = .int .i64 bs.length ∧ e 13 = .int .i64 i) ?_ bs.length _ _
    ⟨0, .nslc, by simp, by simp, by simpa [hitsTo] using GrowR.nil layS 2 h, ok, Hp.le.refl _, .inl rfl, by simp⟩
  rintro n e k' ⟨i, b, rfl, hi, hg, ok', hle, hown, h1, h2, h7, h11, h12, h13⟩ N R X hN hR hX
  have hrl := hle.rle ok
  have ha' := ha.mono hrl (fun _ _ => monoBd _ _ _ _ hrl)
  simp (disch := omega) [h11, h12, h13]
  refine iffW_dec (fun hlt => ?_) (fun hge => ?_)
  · obtain ⟨p, r', hp, hrr, crow, c0, c1, c2⟩ := Bnds.get ha' (List.getElem?_eq_getElem hlt)
    have lp := hp.isleaf
    have lr := hrr.isleaf
    simp (disch := omega) [h11, h13, ha'.idx, crow, lp, lr]
    have okn := ok'.new (.sto [.int .i64 bs[i].id, p, r'] [] 0 none)
    have len := Hp.le_new k' (.sto [.int .i64 bs[i].id, p, r'] [] 0 none)
    have vn := var_new k' [.int .i64 bs[i].id, p, r']
    have hqn := (hq.mono hrl).mono (len.rle ok')
    have hpn := hp.mono (len.rle ok')
    have hrn := hrr.mono (len.rle ok')
    have hrs := (hr.mono hrl).mono (len.rle ok')
    generalize hk1 : k'.new _ = k1 at *
    have stay : ∀ (k2 : Hp) (w : V) (e3 : Env), GrowR layS 2 k2 w ((hitsTo bs key (i + 1)).map (spanOf bs rs)) → k2.ok → h.le k2 → Ab.own h w → e3 1 = r → e3 2 = q → e3 7 = w → e3 11 = a → e3 12 = .int .i64 bs.length → e3 13 = .int .i64 (i + 1) → run (N e3 k2) := by
      intro k2 w e3 hw ok2 le2 own2 q1 q2 q7 q11 q12 q13
      exact hN _ _ _ (by omega) ⟨i + 1, w, rfl, by omega, hw, ok2, le2, own2, q1, q2, q7, q11, q12, by simp [q13]⟩
    have hg1 := hg.le monoS ok' len
    simp [h2, vn.load]
    refine bcmp_spec hpn hqn ?_
    simp
    refine iffW_dec (fun hc1 => ?_) (fun hc1 => ?_)
    · simp (disch := omega) [h2, hc1, vn.load]
      refine bcmp_spec hqn hrn ?_
      simp
      refine iffW_dec (fun hc2 => ?_) (fun hc2 => ?_)
      · have hit1 : hitsTo bs key (i + 1) = hitsTo bs key i ++ [i] := by rw [hitsTo_succ hlt, if_pos (by simp [hit, hc1, hc2])]
        have hid : idAt bs i = bs[i].id := by simp [idAt, hlt]
        have hll := hitsTo_length bs key i
        simp [h1, h13, vn.load]
        have ok2 := okn.new (.sto [.int .i64 bs[i].id, .int .i64 1] [] 0 none)
        have le2 := Hp.le_new k1 (.sto [.int .i64 bs[i].id, .int .i64 1] [] 0 none)
        have v2 := var_new k1 [.int .i64 bs[i].id, .int .i64 1]
        have hrs2 := hrs.mono (le2.rle okn)
        have hx2 : k1.nx < (k1.new (.sto [.int .i64 bs[i].id, .int .i64 1] [] 0 none)).nx := by simp
        generalize hk2 : k1.new _ = k2 at *
        have fin : ∀ (k3 : Hp) (z : Int) (e3 : Env), Var k3 k1.nx [.int .i64 bs[i].id, .int .i64 z] → z = rowsOfZ rs i → k3.ok → k1.le k3 → e3 1 = r → e3 2 = q → e3 7 = b → e3 10 = .ptr k1.nx 0 0 → e3 11 = a → e3 12 = .int .i64 bs.length → e3 13 = .int .i64 i →
            run (codeW (A O) (.reg [Fs.a 43 (.p (.mv (t 7))), Fs.a 44 (.r (.load (some 2) (t 10))), Fs.a 45 (.n (.bslice 2 [.int .i64 0, .int .i64 0] 1 [(0, 2, t 44)])), Fs.a 46 (.e (.append 2 16 (t 43) (t 45))), Fs.a 7 (.p (.mv (t 46)))]) e3 k3 (fun e h => codeW (A O) (.reg [Fs.a 47 (.p (.bin .add (t 13) (Fs.k (.int .i64 1)))), Fs.a 13 (.p (.mv (t 47)))]) e h N R X) R (fun i e h => if i = 1 then codeW (A O) (.reg [Fs.a 47 (.p (.bin .add (t 13) (Fs.k (.int .i64 1)))), Fs.a 13 (.p (.mv (t 47)))]) e h N R X else X i e h)) := by
          intro k3 z e3 v3 hz ok3 le3 q1 q2 q7 q10 q11 q12 q13
          simp [q7, q10, v3.loads]
          refine app1_rule monoS (x := spanOf bs rs i) ok3 (hg1.le monoS okn le3) (by simp [layS, spanOf, hid, ← hz]) rfl rfl (by omega) (by omega) (by simp; omega) ?_
          intro b' h' hg' happ
          simp (disch := omega) [q13, i64_in]
          have hle3 := (hle.trans len).trans le3
          exact stay _ b' _ (by rw [hit1, List.map_append]; exact hg') happ.ok (happ.le hle3 hown) (happ.own hle3 hown) (by simp [q1]) (by simp [q2]) (by simp) (by simp [q11]) (by simp [q12]) (by simp)
        simp [h1, h13, SlR.lenV hrs2]
        refine iffW_dec (fun hc3 => ?_) (fun hc3 => ?_)
        · have hx := hrs2.get (List.getElem?_eq_getElem hc3)
          simp (disch := omega) [h1, h13, hrs2.idx, hx]
          refine v2.put [.int .i64 bs[i].id, .int .i64 (rowsOfZ rs i)] rfl (by simp) rfl (by simp [rowsOfZ, hc3]; split <;> split <;> omega) ?_
          intro k3 v3 hk3
          simp only [run_ops_nil]
          have le3 : k1.le k3 := by rw [hk3]; exact le2.set (Nat.le_refl _) _
          have ok3 : k3.ok := by rw [hk3]; exact ok2.set hx2 _
          exact fin k3 _ _ v3 rfl ok3 le3 (by simp [h1]) (by simp [h2]) (by simp [h7]) (by simp) (by simp [h11]) (by simp [h12]) (by simp [h13])
        · simp only [run_skip]
          exact fin k2 1 _ v2 (by simp [rowsOfZ, List.getElem?_eq_none (show rs.length ≤ i by omega)]) ok2 le2 (by simp [h1]) (by simp [h2]) (by simp [h7]) (by simp) (by simp [h11]) (by simp [h12]) (by simp [h13])
      · have hit1 : hitsTo bs key (i + 1) = hitsTo bs key i := by rw [hitsTo_succ hlt, if_neg (by simp [hit, hc1, hc2]), List.append_nil]
        simp (disch := omega) [h13, i64_in]
        exact stay _ b _ (by rw [hit1]; exact hg1) okn (hle.trans len) hown (by simp [h1]) (by simp [h2]) (by simp [h7]) (by simp [h11]) (by simp [h12]) (by simp)
    · have hit1 : hitsTo bs key (i + 1) = hitsTo bs key i := by rw [hitsTo_succ hlt, if_neg (by simp [hit, hc1]), List.append_nil]
      simp (disch := omega) [h13, i64_in, hc1]
      exact stay _ b _ (by rw [hit1]; exact hg1) okn (hle.trans len) hown (by simp [h1]) (by simp [h2]) (by simp [h7]) (by simp [h11]) (by simp [h12]) (by simp)
  · simp
    refine hX _ _ _ ?_
    simp [h7]
    have : i = bs.length := by omega
    subst this
    exact k _ _ hg ok' hle hown
end Go.Ab.Fs
