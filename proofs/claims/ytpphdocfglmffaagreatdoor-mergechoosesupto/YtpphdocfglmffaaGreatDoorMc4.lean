/- MergeChooses: the reference's Choose. -/
import Derived.Test.YtpphdocfglmffaaGreatDoorMc3
set_option linter.unusedVariables false
set_option linter.unusedSimpArgs false
namespace Go.Ab.Fs
open Go.IntWalk
set_option linter.unusedSimpArgs false
set_option linter.unusedVariables false
variable {O : Orc}

def mnAt (bs : List Bnd) (i : Nat) : List UInt8 := match bs[i]? with | some b => b.mn | none => []
def hitsAt (bs : List Bnd) (i : Nat) : List Nat := hitsTo bs (mnAt bs i) bs.length
def better (bs : List Bnd) (st : List Nat × Option Nat) (i : Nat) : Bool :=
  decide (st.1.length < (hitsAt bs i).length) || (decide ((hitsAt bs i).length = st.1.length) && match st.2 with | none => false | some j => decide (cmpB (mnAt bs i) (mnAt bs j) < 0))
def bestStep (bs : List Bnd) (st : List Nat × Option Nat) (i : Nat) : List Nat × Option Nat := if better bs st i then (hitsAt bs i, some i) else st
def refBest (bs : List Bnd) (n : Nat) : List Nat × Option Nat := (List.range n).foldl (bestStep bs) ([], none)
def refLoop (bs : List Bnd) (rs : List Int) (best : List Nat) : Nat → List Nat → List Int → Int → List Int
  | 0, _, out, _ => out
  | n + 1, taken, out, left => match nextF bs rs best taken with
    | none => out
    | some k => if left < rowsOfZ rs k then out else refLoop bs rs best n (taken ++ [k]) (putZ (idAt bs k) out) (left - rowsOfZ rs k)
def refChoose (bs : List Bnd) (rs : List Int) (budget : Int) : List Int :=
  let out := refLoop bs rs (refBest bs bs.length).1 (refBest bs bs.length).1.length [] [] budget
  if out.length < 2 then [] else out

theorem mem_hitsTo {bs : List Bnd} {key : List UInt8} {n k : Nat} : k ∈ hitsTo bs key n ↔ k < n ∧ ∃ b, bs[k]? = some b ∧ hit b key = true := by
  unfold hitsTo
  rw [List.mem_filter, List.mem_range]
  constructor
  · rintro ⟨h1, h2⟩
    refine ⟨h1, ?_⟩
    split at h2
    · rename_i b hb; exact ⟨b, hb, h2⟩
    · simp at h2
  · rintro ⟨h1, b, hb, h2⟩
    exact ⟨h1, by rw [hb]; exact h2⟩
theorem hitsTo_nodup (bs : List Bnd) (key : List UInt8) (n : Nat) : (hitsTo bs key n).Nodup := List.nodup_range.filter _
theorem bestStep_in {bs : List Bnd} {st : List Nat × Option Nat} {i : Nat} (hi : i < bs.length) (h : (∀ k ∈ st.1, k < bs.length) ∧ st.1.Nodup ∧ (∀ j, st.2 = some j → j < bs.length)) :
    (∀ k ∈ (bestStep bs st i).1, k < bs.length) ∧ (bestStep bs st i).1.Nodup ∧ (∀ j, (bestStep bs st i).2 = some j → j < bs.length) := by
  unfold bestStep
  split
  · refine ⟨fun k hk => (mem_hitsTo.1 hk).1, hitsTo_nodup _ _ _, fun j hj => ?_⟩
    simp at hj; omega
  · exact h
theorem refBest_succ (bs : List Bnd) (n : Nat) : refBest bs (n + 1) = bestStep bs (refBest bs n) n := by
  simp [refBest, List.range_succ]
theorem refBest_in (bs : List Bnd) : ∀ n, n ≤ bs.length → (∀ k ∈ (refBest bs n).1, k < bs.length) ∧ (refBest bs n).1.Nodup ∧ (∀ j, (refBest bs n).2 = some j → j < bs.length)
  | 0, _ => by simp [refBest]
  | n + 1, h => by rw [refBest_succ]; exact bestStep_in (by omega) (refBest_in bs n (by omega))

theorem nodup_le : ∀ {l m : List Nat}, l.Nodup → (∀ x ∈ l, x ∈ m) → l.length ≤ m.length
  | [], _, _, _ => by simp
  | x :: l, m, hn, hs => by
    have hx := hs x (List.mem_cons_self ..)
    have h1 := List.length_erase_of_mem hx
    have h2 : 0 < m.length := List.length_pos_of_mem hx
    have := nodup_le (l := l) (m := m.erase x) (List.nodup_cons.1 hn).2 fun y hy => by
      have hne : y ≠ x := by rintro rfl; exact (List.nodup_cons.1 hn).1 hy
      exact (List.mem_erase_of_ne hne).2 (hs y (List.mem_cons_of_mem _ hy))
    rw [List.length_cons]; omega

theorem nextStep_some {bs : List Bnd} {rs : List Int} {taken : List Nat} {o : Option Nat} {k : Nat} (h : nextStep bs rs taken o k = none) : o = none ∧ k ∈ taken := by
  unfold nextStep at h
  split at h
  · rename_i hk; exact ⟨h, hk⟩
  · split at h
    · simp at h
    · split at h <;> simp at h
theorem foldl_none {bs : List Bnd} {rs : List Int} {taken : List Nat} : ∀ {l : List Nat} {o : Option Nat}, l.foldl (nextStep bs rs taken) o = none → o = none ∧ ∀ k ∈ l, k ∈ taken
  | [], o, h => ⟨h, by simp⟩
  | k :: l, o, h => by
    obtain ⟨h1, h2⟩ := foldl_none (l := l) h
    obtain ⟨h3, h4⟩ := nextStep_some h1
    exact ⟨h3, fun x hx => by
      rcases List.mem_cons.1 hx with rfl | hx
      · exact h4
      · exact h2 x hx⟩
theorem nextStep_mem {bs : List Bnd} {rs : List Int} {taken : List Nat} {o : Option Nat} {k j : Nat} (h : nextStep bs rs taken o k = some j) : o = some j ∨ (j = k ∧ k ∉ taken) := by
  unfold nextStep at h
  split at h
  · exact .inl h
  · rename_i hk
    split at h
    · simp at h; exact .inr ⟨h.symm, hk⟩
    · split at h
      · simp at h; exact .inr ⟨h.symm, hk⟩
      · exact .inl h
theorem foldl_mem {bs : List Bnd} {rs : List Int} {taken : List Nat} : ∀ {l : List Nat} {o : Option Nat} {j : Nat}, l.foldl (nextStep bs rs taken) o = some j → o = some j ∨ (j ∈ l ∧ j ∉ taken)
  | [], o, j, h => .inl h
  | k :: l, o, j, h => by
    rcases foldl_mem (l := l) h with h | ⟨h1, h2⟩
    · rcases nextStep_mem h with h | ⟨rfl, h⟩
      · exact .inl h
      · exact .inr ⟨List.mem_cons_self .., h⟩
    · exact .inr ⟨List.mem_cons_of_mem _ h1, h2⟩
theorem next_some {bs : List Bnd} {rs : List Int} {best taken : List Nat} (hn : best.Nodup) (hl : taken.length < best.length) : ∃ k, nextF bs rs best taken = some k ∧ k ∈ best ∧ k ∉ taken := by
  cases h : nextF bs rs best taken with
  | none =>
    have := nodup_le hn (foldl_none h).2
    omega
  | some k =>
    refine ⟨k, rfl, ?_⟩
    rcases foldl_mem h with h | h
    · simp at h
    · exact h
theorem rowsOfZ_pos (rs : List Int) (i : Nat) : 1 ≤ rowsOfZ rs i := by
  unfold rowsOfZ
  split
  · split <;> omega
  · omega

theorem refChoose_spec {h : Hp} {a r : V} {bs : List Bnd} {rs : List Int} {budget : Int} {K : V → Hp → Prop} (ok : h.ok) (ha : Bnds h.obj a bs) (hr : Ints h.obj r rs) (hl : bs.length ≤ 1073741824) (hb : -9223372036854775808 ≤ budget ∧ budget ≤ 9223372036854775807)
    (k : ∀ b h', Ints h'.obj b (refChoose bs rs budget) → h'.ok → h.le h' → run (K b h')) : callW (A O) N_stoaref24_Choose [a, r, .int .i64 budget] h K := by
  refine callW_enter a_stoaref24_Choose ?_
  simp (disch := omega) [F_stoaref24_Choose]
  refine loop_rule (I := fun n e k => ∃ (i : Nat) (b : V), n = bs.length - i ∧ i ≤ bs.length ∧ Nats k.obj b (refBest bs i).1 ∧ k.ok ∧ h.le k ∧ e 0 = a ∧ e 1 = r ∧ e 2 = .int .i64 budget ∧ e 7 = b ∧ e 8 = .int .i64 (optZ (refBest bs i).2) ∧ e 9 = .int .i64 i) ?_ bs.length _ _
    ⟨0, .slc h.nx 0 0 0 0 1, by simp, by simp, by simpa [refBest, zs, Nats] using (GrowR.empty layI 1 h).slr, ok.new _, Hp.le_new _ _, by simp, by simp, by simp, by simp, by simp [refBest, optZ], by simp⟩
  · rintro n e k' ⟨i, b, rfl, hi, hbest, ok', hle, h0, h1, h2, h7, h8, h9⟩ N R X hN hR hX
    have hrl := hle.rle ok
    have ha' := ha.mono hrl (fun _ _ => monoBd _ _ _ _ hrl)
    simp (disch := omega) [h0, h7, h8, h9, ha'.lenV]
    refine iffW_dec (fun hlt => ?_) (fun hge => ?_)
    · obtain ⟨p, q, hp, _, _, _, c1, _⟩ := Bnds.get ha' (List.getElem?_eq_getElem hlt)
      have hmn : mnAt bs i = bs[i].mn := by simp [mnAt, hlt]
      simp (disch := omega) [h0, h7, h8, h9, ha'.idx, c1]
      refine hits_spec ok' ha' hp (by omega) ?_
      intro x k2 hx ok2 le2 _
      have hx : Nats k2.obj x (hitsAt bs i) := by unfold hitsAt; rw [hmn]; exact hx.slr
      have hle2 := hle.trans le2
      have hrl2 := hle2.rle ok
      have ha2 := ha.mono hrl2 (fun _ _ => monoBd _ _ _ _ hrl2)
      have hp2 := hp.mono (le2.rle ok')
      have hbest2 : Nats k2.obj b (refBest bs i).1 := Ints.mono hbest (le2.rle ok')
      obtain ⟨p3, q3, hp3, _, _, _, c3, _⟩ := Bnds.get ha2 (List.getElem?_eq_getElem hlt)
      have stay : ∀ (e3 : Env) (w : V), Nats k2.obj w (bestStep bs (refBest bs i) i).1 → e3 0 = a → e3 1 = r → e3 2 = .int .i64 budget → e3 7 = w → e3 8 = .int .i64 (optZ (bestStep bs (refBest bs i) i).2) → e3 9 = .int .i64 (i + 1) → run (N e3 k2) := by
        intro e3 w hw q0 q1 q2 q7 q8 q9
        refine hN _ _ _ (by omega) ⟨i + 1, w, rfl, by omega, by rw [refBest_succ]; exact hw, ok2, hle2, q0, q1, q2, q7, by rw [refBest_succ]; exact q8, by simp [q9]⟩
      simp (disch := omega) [h7, Nats.lenV hx, Nats.lenV hbest2]
      refine iffW_dec (fun hc1 => ?_) (fun hc1 => ?_)
      · have hbs : bestStep bs (refBest bs i) i = (hitsAt bs i, some i) := by simp [bestStep, better, hc1]
        simp (disch := omega) [hc1, h9, i64_in]
        exact stay _ x (by rw [hbs]; exact hx) (by simp [h0]) (by simp [h1]) (by simp [h2]) (by simp) (by simp [hbs, optZ]) (by simp)
      · simp (disch := omega) [hc1, h7, h8, Nats.lenV hx, Nats.lenV hbest2]
        refine iffW_dec (fun hc2 => ?_) (fun hc2 => ?_)
        · cases hat : (refBest bs i).2 with
          | none =>
            have hbs : bestStep bs (refBest bs i) i = refBest bs i := by simp only [bestStep, better, decide_eq_false hc1, hat, Bool.and_false, Bool.or_false, Bool.false_eq_true, if_false]
            simp (disch := omega) [hc2, h8, h9, hat, optZ, i64_in]
            exact stay _ b (by rw [hbs]; exact hbest2) (by simp [h0]) (by simp [h1]) (by simp [h2]) (by simp [h7]) (by simp [hbs, h8, hat, optZ]) (by simp)
          | some j =>
            have hj := (refBest_in bs i hi).2.2 j hat
            obtain ⟨p4, q4, hp4, _, _, _, c4, _⟩ := Bnds.get ha2 (List.getElem?_eq_getElem hj)
            have hmnj : mnAt bs j = bs[j].mn := by simp [mnAt, hj]
            simp (disch := omega) [hc2, h0, h8, h9, hat, optZ, ha2.idx, c3, c4]
            refine order_spec hp3 hp4 ?_
            simp
            refine iffW_dec (fun hc3 => ?_) (fun hc3 => ?_)
            · have hbs : bestStep bs (refBest bs i) i = (hitsAt bs i, some i) := by
                have hc2' : (hitsAt bs i).length = (refBest bs i).1.length := by omega
                simp only [bestStep, better, decide_eq_true hc2', hat, hmn, hmnj, decide_eq_true hc3, Bool.and_true, Bool.or_true, if_true]
              simp (disch := omega) [hc3, h9, i64_in]
              exact stay _ x (by rw [hbs]; exact hx) (by simp [h0]) (by simp [h1]) (by simp [h2]) (by simp) (by simp [hbs, optZ]) (by simp)
            · have hbs : bestStep bs (refBest bs i) i = refBest bs i := by simp only [bestStep, better, decide_eq_false hc1, hat, hmn, hmnj, decide_eq_false hc3, Bool.and_false, Bool.or_false, Bool.false_eq_true, if_false]
              simp (disch := omega) [hc3, h9, i64_in]
              exact stay _ b (by rw [hbs]; exact hbest2) (by simp [h0]) (by simp [h1]) (by simp [h2]) (by simp [h7]) (by simp [hbs, h8, hat, optZ]) (by simp)
        · have hbs : bestStep bs (refBest bs i) i = refBest bs i := by
            have hc2' : ¬ (hitsAt bs i).length = (refBest bs i).1.length := by omega
            simp only [bestStep, better, decide_eq_false hc1, decide_eq_false hc2', Bool.false_and, Bool.or_false, Bool.false_eq_true, if_false]
          simp (disch := omega) [hc2, h9, i64_in]
          exact stay _ b (by rw [hbs]; exact hbest2) (by simp [h0]) (by simp [h1]) (by simp [h2]) (by simp [h7]) (by simp [hbs, h8]) (by simp)
    · simp
      refine hX _ _ _ ?_
      have : i = bs.length := by omega
      subst this
      obtain ⟨hin, hnd, _⟩ := refBest_in bs bs.length (Nat.le_refl _)
      have hblen := Nats.lenV hbest
      simp (disch := omega) [h2]
      have e0 : Ab.own h (.slc k'.nx 0 0 0 0 1) := .inr hle.nx
      have g1 : GrowR layI 1 ((k'.new (.sto [] [] 0 none)).new (.sto [] [] 0 none)) (.slc k'.nx 0 0 0 0 1) (zs []) := (GrowR.empty layI 1 k').le monoI (ok'.new _) (Hp.le_new _ _)
      refine loop_rule (I := fun n e k => ∃ (m : Nat) (taken : List Nat) (out : List Int) (left : Int) (tk o : V), n = m ∧ taken.length + m = (refBest bs bs.length).1.length ∧ out.length = taken.length ∧
          refLoop bs rs (refBest bs bs.length).1 (refBest bs bs.length).1.length [] [] budget = refLoop bs rs (refBest bs bs.length).1 m taken out left ∧ left ≤ budget ∧ -9223372036854775808 ≤ left ∧
          Nats k.obj b (refBest bs bs.length).1 ∧ GrowR layI 1 k tk (zs taken) ∧ Ints k.obj o out ∧ k.ok ∧ h.le k ∧ Ab.own h tk ∧ e 0 = a ∧ e 1 = r ∧ e 7 = b ∧ e 11 = tk ∧ e 12 = o ∧ e 13 = .int .i64 left) ?_ (refBest bs bs.length).1.length _ _
        ⟨_, [], [], budget, .slc k'.nx 0 0 0 0 1, .slc (k'.nx + 1) 0 0 0 0 1, rfl, by simp, rfl, rfl, by omega, by omega, Ints.mono hbest (((Hp.le_new _ _).trans (Hp.le_new _ _)).rle ok'), g1, (GrowR.empty layI 1 (k'.new (.sto [] [] 0 none))).slr, (ok'.new _).new _, hle.trans ((Hp.le_new _ _).trans (Hp.le_new _ _)), e0, by simp [h0], by simp [h1], by simp [h7], by simp, by simp, by simp⟩
      clear hX hN hR N R X h0 h1 h2 h7 h8 h9 e
      rintro n e k1 ⟨_, taken, out, left, tk, o, rfl, hlen, holen, hloop, hle1, hle2, hbest1, htk, ho, ok1, hl1, hown, h0, h1, h7, h11, h12, h13⟩ N R X hN hR hX
      have hrl1 := hl1.rle ok
      have ha1 := ha.mono hrl1 (fun _ _ => monoBd _ _ _ _ hrl1)
      have hr1 := hr.mono hrl1
      have hnl := hitsTo_length
      have hbl : (refBest bs bs.length).1.length ≤ bs.length := by
        have := nodup_le (m := List.range bs.length) hnd (fun x hx => List.mem_range.2 (hin x hx))
        simpa using this
      have fin : refLoop bs rs (refBest bs bs.length).1 (refBest bs bs.length).1.length [] [] budget = out → ∀ e2 : Env, e2 12 = o → run (codeW (A O) (.seq (.seq (.reg [Fs.a 95 (.p (.mv (t 12))), Fs.a 96 (.p (.len false (t 95))), Fs.a 97 (.p (.bin .lss (t 96) (Fs.k (.int .i64 2))))]) (.cond (t 97) (.seq (.reg [Fs.a 98 (.n (.bslice 1 [] 0 [])), Fs.a 6 (.p (.mv (t 98)))]) .ret) .skip)) (.seq (.reg [Fs.a 99 (.p (.mv (t 12))), Fs.a 6 (.p (.mv (t 99)))]) .ret)) e2 k1 (resW [.tmp 6] K) (resW [.tmp 6] K) (fun _ _ _ => False)) := by
        intro hf e2 q12
        simp (disch := omega) [q12, SlR.lenV ho]
        have hout : refChoose bs rs budget = if out.length < 2 then [] else out := by simp only [refChoose, hf]
        refine iffW_dec (fun hc => ?_) (fun hc => ?_)
        · rw [if_pos (by omega)] at hout
          simp
          exact k _ _ (by rw [hout]; exact (GrowR.empty layI 1 k1).slr) (ok1.new _) (hl1.trans (Hp.le_new _ _))
        · rw [if_neg (by omega)] at hout
          simp [q12]
          exact k _ _ (by rw [hout]; exact ho) ok1 hl1
      simp (disch := omega) [h7, h11, Nats.lenV hbest1, Nats.lenV htk.slr]
      refine iffW_dec (fun hlt => ?_) (fun hge => ?_)
      · obtain ⟨j, hj, hjb, hjt⟩ := next_some (bs := bs) (rs := rs) hnd hlt
        have hjl := hin j hjb
        simp (disch := omega) [h0, h1, h7, h11]
        refine next_spec ha1 hr1 hbest1 htk.slr hin ?_
        simp [hj, optZ, h1]
        refine rowsOf_spec hr1 ?_
        simp [h13]
        have hpos := rowsOfZ_pos rs j
        obtain ⟨m2, hm2⟩ : ∃ m', n = m' + 1 := ⟨n - 1, by omega⟩
        subst hm2
        simp only [refLoop, hj] at hloop
        refine iffW_dec (fun hc => ?_) (fun hc => ?_)
        · rw [if_pos hc] at hloop
          simp
          refine hX _ _ _ ?_
          simp only [↓reduceIte, true_and]
          exact fin hloop _ (by simp [h12])
        · rw [if_neg hc] at hloop
          simp [h1, h13]
          refine rowsOf_spec hr1 ?_
          simp (disch := omega) [h11, i64_in]
          refine app1_rule monoI (x := (j : Int)) ok1 htk (by rfl) rfl rfl (by omega) (by omega) (by rw [zs_length]; omega) ?_
          intro tk2 k2 htk2 happ
          have hl2 := happ.le hl1 hown
          have hrl2 := hl2.rle ok
          have ha2 := ha.mono hrl2 (fun _ _ => monoBd _ _ _ _ hrl2)
          obtain ⟨_, _, _, _, _, c0, _, _⟩ := Bnds.get ha2 (List.getElem?_eq_getElem hjl)
          have hid : idAt bs j = bs[j].id := by simp [idAt, hjl]
          simp (disch := omega) [h0, h12, ha2.idx, c0]
          refine put_spec happ.ok (ho.mono happ.rle) (by omega) ?_
          intro o3 k3 ho3 ok3 le3 own3
          simp
          refine hN m2 _ _ (by omega) ⟨m2, taken ++ [j], putZ (idAt bs j) out, left - rowsOfZ rs j, tk2, o3, rfl, by simp; omega, by rw [putZ_length]; simp; omega, hloop, by omega, by omega,
            Ints.mono hbest1 (happ.rle.trans (le3.rle happ.ok)), ?_, by rw [hid]; exact ho3.slr, ok3, hl2.trans le3, happ.own hl1 hown, by simp [h0], by simp [h1], by simp [h7], by simp, by simp, by simp⟩
          rw [zs_append]
          exact htk2.le monoI happ.ok le3
      · simp
        refine hX _ _ _ ?_
        have : n = 0 := by omega
        subst this
        simp only [↓reduceIte, true_and]
        exact fin hloop _ (by simp [h12])
end Go.Ab.Fs
