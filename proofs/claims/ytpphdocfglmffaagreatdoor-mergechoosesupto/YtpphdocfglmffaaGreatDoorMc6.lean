/- MergeChooses: the comparison of the sort; the program's Choose. -/
import Derived.Test.YtpphdocfglmffaaGreatDoorMc5
set_option linter.unusedVariables false
set_option linter.unusedSimpArgs false
namespace Go.Ab.Fs
open Go.IntWalk
set_option linter.unusedSimpArgs false
set_option linter.unusedVariables false
variable {O : Orc}

theorem ints_lit (h : Hp) (xs : List Int) (hl : xs.length ≤ 140737488355328) : Ints (h.new (.sto (xs.map (V.int .i64)) [] 0 none)).obj (.slc h.nx 0 0 xs.length xs.length 1) xs := by
  have hf : ∀ ys : List Int, (ys.map fun n => [V.int .i64 n]).flatten = ys.map (V.int .i64) := by
    intro ys; induction ys with
    | nil => rfl
    | cons y ys ih => simp [ih]
  refine ⟨xs.map fun n => [V.int .i64 n], ⟨.inr ⟨h.nx, 0, 0, xs.length, by simp, by simp, ?_⟩, by simp, by simp, by simpa using hl⟩, by simp, ?_⟩
  · rw [hf]
    simp only [rdAt, Hp.new_obj, if_true, rdC_plain]
    rw [if_pos (by simp), List.drop_zero, List.take_of_length_le (by simp)]
  · intro i x r hx hr
    simp [hx] at hr
    exact hr.symm

def orZ : List Int → Int
  | [] => 0
  | x :: r => if x = 0 then orZ r else x

theorem orZ_drop {xs : List Int} : ∀ {i : Nat}, (∀ j, j < i → xs[j]? = some 0) → orZ xs = orZ (xs.drop i) := by
  intro i
  induction i with
  | zero => simp
  | succ i ih =>
    intro h
    rw [ih fun j hj => h j (by omega)]
    have := h i (by omega)
    obtain ⟨hi, hx⟩ := List.getElem?_eq_some_iff.1 this
    rw [List.drop_eq_getElem_cons hi, hx]
    simp [orZ]

theorem cmpOr_spec {h : Hp} {a : V} {xs : List Int} {K : V → Hp → Prop} (ha : Ints h.obj a xs) (k : run (K (.int .i64 (orZ xs)) h)) : callW (A O) N_cmp_Or_int [a] h K := by
  refine callW_enter a_cmp_Or_int ?_
  have la := ha.lim
  simp (disch := omega) [F_cmp_Or_int, ha.lenV]
  refine loop_rule (I := fun m e k => ∃ i : Nat, m = xs.length - i ∧ i ≤ xs.length ∧ (∀ j, j < i → xs[j]? = some 0) ∧ h = k ∧ e 3 = .int .i64 0 ∧ e 6 = a ∧ e 7 = .int .i64 xs.length ∧ e 8 = .int .i64 i) ?_ xs.length _ _ ⟨0, by simp⟩
  rintro m e _ ⟨i, rfl, hi, hs, rfl, h3, h6, h7, h8⟩ N R X hN hR hX
  simp (disch := omega) [h6, h7, h8]
  refine iffW_dec (fun hlt => ?_) (fun hge => ?_)
  · have hx := ha.get (List.getElem?_eq_getElem hlt)
    simp (disch := omega) [h3, h6, h8, ha.idx, hx]
    refine iffW_ndec (fun hne => ?_) (fun he => ?_)
    · simp
      refine hR _ _ ?_
      rw [orZ_drop hs, List.drop_eq_getElem_cons hlt] at k
      simp only [orZ, hne, if_false] at k
      simpa using k
    · simp (disch := omega) [h8, i64_in]
      refine hN _ _ _ (by omega) ⟨i + 1, rfl, by omega, ?_, rfl, by simp [h3], by simp [h6], by simp [h7], by simp⟩
      intro j hj
      by_cases hji : j = i
      · subst hji; rw [List.getElem?_eq_getElem hlt, he]
      · exact hs j (by omega)
  · simp
    refine hX _ _ _ ?_
    simp [h3]
    rw [orZ_drop hs, List.drop_eq_nil_of_le (by omega)] at k
    exact k

def cmpI (x y : Int) : Int := if x < y then -1 else if y < x then 1 else 0
theorem isNaN_spec {h : Hp} {x : Int} {K : V → Hp → Prop} (k : run (K (.bool false) h)) : callW (A O) N_cmp_isNaN_int [.int .i64 x] h K := by
  refine callW_enter a_cmp_isNaN_int ?_
  simp [F_cmp_isNaN_int]
  exact k
theorem cmpI_spec {h : Hp} {x y : Int} {K : V → Hp → Prop} (k : run (K (.int .i64 (cmpI x y)) h)) : callW (A O) N_cmp_Compare_int [.int .i64 x, .int .i64 y] h K := by
  refine callW_enter a_cmp_Compare_int ?_
  simp [F_cmp_Compare_int]
  refine isNaN_spec ?_
  simp
  refine isNaN_spec ?_
  simp
  unfold cmpI at k
  refine iffW_dec (fun hc => ?_) (fun hc => ?_)
  · rw [if_pos hc] at k; simpa using k
  · rw [if_neg hc] at k
    simp
    refine iffW_dec (fun hc2 => ?_) (fun hc2 => ?_)
    · rw [if_pos hc2] at k; simpa using k
    · rw [if_neg hc2] at k; simpa using k

/-- how the program compares spans: by their rows, then by their ids -/
def cmpS (x y : Int × Int) : Int := orZ [cmpI x.2 y.2, cmpI x.1 y.1]

theorem cmpS_spec {h : Hp} {x y : Int × Int} {K : V → Hp → Prop} (ok : h.ok) (k : ∀ h', h'.ok → h.le h' → run (K (.int .i64 (cmpS x y)) h')) :
    callW (A O) N_merge_Choose_1 [.agg [.int .i64 x.1, .int .i64 x.2], .agg [.int .i64 y.1, .int .i64 y.2]] h K := by
  refine callW_enter a_merge_Choose_1 ?_
  simp (disch := first | omega | (simp; done) | fail) [F_merge_Choose_1, load_new_eq, load_new_ne]
  refine cmpI_spec ?_
  simp (disch := first | omega | (simp; done) | fail) [load_new_eq, load_new_ne]
  refine cmpI_spec ?_
  simp (disch := first | omega | (simp; done) | fail) [load_new_eq, load_new_ne]
  have ok2 := (ok.new (.sto [.int .i64 x.1, .int .i64 x.2] [] 0 none)).new (.sto [.int .i64 y.1, .int .i64 y.2] [] 0 none)
  have le2 := (Hp.le_new h (.sto [.int .i64 x.1, .int .i64 x.2] [] 0 none)).trans (Hp.le_new _ (.sto [.int .i64 y.1, .int .i64 y.2] [] 0 none))
  have hn2 : ((h.new (.sto [.int .i64 x.1, .int .i64 x.2] [] 0 none)).new (.sto [.int .i64 y.1, .int .i64 y.2] [] 0 none)).nx = h.nx + 1 + 1 := rfl
  generalize hk2 : (h.new _).new _ = k2 at *
  have hl := ints_lit k2 [cmpI x.2 y.2, cmpI x.1 y.1] (by simp)
  rw [← hn2]
  refine cmpOr_spec hl ?_
  simp
  exact k _ (ok2.new _) (le2.trans (Hp.le_new _ _))

def spanLe (x y : Int × Int) : Prop := x.2 < y.2 ∨ x.2 = y.2 ∧ x.1 ≤ y.1

/-- what is known of the sorts -/
structure SortsKnown (O : Orc) : Prop where
  spans : ∀ (h : Hp) (a : V) (l : List (Int × Int)) (R : V → Hp → Prop), h.ok → GrowR layS 2 h a l → (∀ k l', Sorted layS 2 spanLe h a l k l' → R (.tup []) k) → O N_slices_SortFunc_merge_span_merge_span [a, .fn (.func N_merge_Choose_1) [] []] h R
  ints : ∀ (h : Hp) (a : V) (l : List Int) (R : V → Hp → Prop), h.ok → GrowR layI 1 h a l → (∀ k l', Sorted layI 1 (· ≤ ·) h a l k l' → R (.tup []) k) → O N_slices_Sort_int_int [a] h R

theorem orc_spec {f : Nat} {args : List V} {h : Hp} {K : V → Hp → Prop} {fn : AFn} (ha : (A O).fn f = some fn) (k : O f args h K) : callW (A O) f args h K := by
  unfold callW
  exact .orc ha k fun v h' r => ⟨v, rfl, r⟩

theorem _root_.Go.Ab.Sorted.le {X : Type} {L : Lay X} {sz : Nat} {le : X → X → Prop} {h0 h k : Hp} {a : V} {l l' : List X} (s : Sorted L sz le h a l k l') (hl : h0.le h) (o : Ab.own h0 a) : h0.le k := ⟨by rw [s.nx]; exact hl.nx, fun j hj => by
  rw [s.same j (by rcases o with o | o; exact .inl o; exact .inr (by omega))]
  exact hl.obj j hj⟩
theorem sortS_spec {h : Hp} {a : V} {l : List (Int × Int)} {K : V → Hp → Prop} (hO : SortsKnown O) (ok : h.ok) (g : GrowR layS 2 h a l) (k : ∀ k l', Sorted layS 2 spanLe h a l k l' → run (K (.tup []) k)) :
    callW (A O) N_slices_SortFunc_merge_span_merge_span [a, .fn (.func N_merge_Choose_1) [] []] h K := orc_spec a_slices_SortFunc_merge_span_merge_span (hO.spans h a l _ ok g k)
theorem sortI_spec {h : Hp} {a : V} {l : List Int} {K : V → Hp → Prop} (hO : SortsKnown O) (ok : h.ok) (g : GrowR layI 1 h a l) (k : ∀ k l', Sorted layI 1 (· ≤ ·) h a l k l' → run (K (.tup []) k)) :
    callW (A O) N_slices_Sort_int_int [a] h K := orc_spec a_slices_Sort_int_int (hO.ints h a l _ ok g k)

def takeIds : List (Int × Int) → Int → List Int
  | [], _ => []
  | x :: r, b => if b < x.2 then [] else x.1 :: takeIds r (b - x.2)

theorem takeIds_length : ∀ (l : List (Int × Int)) (b : Int), (takeIds l b).length ≤ l.length
  | [], _ => by simp [takeIds]
  | x :: r, b => by
    simp only [takeIds]
    split
    · simp
    · have := takeIds_length r (b - x.2)
      simp; omega

/-- what the program chooses -/
def Chosen (bs : List Bnd) (rs : List Int) (budget : Int) (y : List Int) : Prop :=
  ∃ l : List (Int × Int), l.Perm ((refBest bs bs.length).1.map (spanOf bs rs)) ∧ l.Pairwise spanLe ∧
    if (takeIds l budget).length < 2 then y = [] else y.Perm (takeIds l budget) ∧ y.Pairwise (· ≤ ·)

theorem refBest_pos (bs : List Bnd) : ∀ n j, (refBest bs n).2 = some j → 0 < (refBest bs n).1.length
  | 0, j, h => by simp [refBest] at h
  | n + 1, j, h => by
    rw [refBest_succ] at h ⊢
    unfold bestStep at h ⊢
    split at h
    · rename_i hb
      rw [if_pos hb]
      simp only [better, Bool.or_eq_true, Bool.and_eq_true, decide_eq_true_eq] at hb
      rcases hb with hb | ⟨hb, hc⟩
      · simp only; omega
      · simp only
        split at hc
        · simp at hc
        · rename_i j' hj'
          have := refBest_pos bs n j' hj'
          omega
    · rename_i hb
      rw [if_neg hb]
      exact refBest_pos bs n j h
theorem refBest_none (bs : List Bnd) : ∀ n, (refBest bs n).2 = none → (refBest bs n).1 = []
  | 0, h => by simp [refBest]
  | n + 1, h => by
    rw [refBest_succ] at h ⊢
    unfold bestStep at h ⊢
    split at h
    · simp at h
    · rename_i hb
      rw [if_neg hb]
      exact refBest_none bs n h

theorem choose_spec {h : Hp} {a r : V} {bs : List Bnd} {rs : List Int} {budget : Int} {K : V → Hp → Prop} (hO : SortsKnown O) (ok : h.ok) (ha : Bnds h.obj a bs) (hr : Ints h.obj r rs) (hl : bs.length ≤ 1073741824) (hb : -9223372036854775808 ≤ budget ∧ budget ≤ 9223372036854775807)
    (k : ∀ b h' y, Chosen bs rs budget y → Ints h'.obj b y → h'.ok → h.le h' → run (K b h')) : callW (A O) N_merge_Choose [a, r, .int .i64 budget] h K := by
  refine callW_enter a_merge_Choose ?_
  simp (disch := omega) [F_merge_Choose, ha.lenV]
  refine loop_rule (I := fun n e k => ∃ (i : Nat) (b m : V), n = bs.length - i ∧ i ≤ bs.length ∧ GrowR layS 2 k b ((refBest bs i).1.map (spanOf bs rs)) ∧ k.ok ∧ h.le k ∧ Ab.own h b ∧ (∀ j, (refBest bs i).2 = some j → Byts k.obj m (mnAt bs j)) ∧
      e 0 = a ∧ e 1 = r ∧ e 2 = .int .i64 budget ∧ e 7 = b ∧ e 8 = m ∧ e 15 = a ∧ e 16 = .int .i64 bs.length ∧ e 17 = .int .i64 i) ?_ bs.length _ _
    ⟨0, .nslc, .nslc, by simp, by simp, by simpa [refBest] using GrowR.nil layS 2 h, ok, Hp.le.refl _, .inl rfl, by simp [refBest], by simp⟩
  · rintro n e k' ⟨i, b, m, rfl, hi, hg, ok', hle, hown, hm, h0, h1, h2, h7, h8, h15, h16, h17⟩ N R X hN hR hX
    have hrl := hle.rle ok
    have ha' := ha.mono hrl (fun _ _ => monoBd _ _ _ _ hrl)
    simp (disch := omega) [h15, h16, h17]
    refine iffW_dec (fun hlt => ?_) (fun hge => ?_)
    · obtain ⟨p, q, hp, hq, crow, _, _, _⟩ := Bnds.get ha' (List.getElem?_eq_getElem hlt)
      have hmn : mnAt bs i = bs[i].mn := by simp [mnAt, hlt]
      have lp := hp.isleaf
      have lr := hq.isleaf
      simp (disch := omega) [h0, h1, h15, h17, ha'.idx, crow, lp, lr]
      have okn := ok'.new (.sto [.int .i64 bs[i].id, p, q] [] 0 none)
      have len := Hp.le_new k' (.sto [.int .i64 bs[i].id, p, q] [] 0 none)
      have vn := var_new k' [.int .i64 bs[i].id, p, q]
      have lt1 : k'.nx < (k'.new (.sto [.int .i64 bs[i].id, p, q] [] 0 none)).nx := by simp
      have rn := len.rle ok'
      generalize hk1 : k'.new _ = k1 at *
      have hle1 := hle.trans len
      have hrl1 := hle1.rle ok
      have ha1 := ha.mono hrl1 (fun _ _ => monoBd _ _ _ _ hrl1)
      refine stab_spec okn ha1 (hr.mono hrl1) (hp.mono rn) hl ?_
      intro x k2 hx ok2 le2 ownx
      rw [← hmn] at hx
      have hle2 := hle1.trans le2
      have v2 := vn.le le2 lt1
      have rn2 := rn.trans (le2.rle okn)
      have hg2 := hg.le monoS ok' (len.trans le2)
      have hp2 := hp.mono rn2
      have ownx2 : Ab.own h x := ownx.le hle1
      have hxl : (hitsAt bs i).length = ((hitsTo bs (mnAt bs i) bs.length).map (spanOf bs rs)).length := by simp [hitsAt]
      have hbl : (refBest bs i).1.length = ((refBest bs i).1.map (spanOf bs rs)).length := by simp
      have stay : ∀ (w m2 : V) (e3 : Env), GrowR layS 2 k2 w ((bestStep bs (refBest bs i) i).1.map (spanOf bs rs)) → Ab.own h w → (∀ j, (bestStep bs (refBest bs i) i).2 = some j → Byts k2.obj m2 (mnAt bs j)) → e3 0 = a → e3 1 = r → e3 2 = .int .i64 budget → e3 7 = w → e3 8 = m2 → e3 15 = a → e3 16 = .int .i64 bs.length → e3 17 = .int .i64 (i + 1) → run (N e3 k2) := by
        intro w m2 e3 hw hwo hm2 q0 q1 q2 q7 q8 q15 q16 q17
        exact hN _ _ _ (by omega) ⟨i + 1, w, m2, rfl, by omega, by rw [refBest_succ]; exact hw, ok2, hle2, hwo, by rw [refBest_succ]; exact hm2, q0, q1, q2, q7, q8, q15, q16, by simp [q17]⟩
      simp (disch := omega) [h7, SlR.lenV hx.slr, SlR.lenV hg2.slr]
      refine iffW_dec (fun hc1 => ?_) (fun hc1 => ?_)
      · have hbs : bestStep bs (refBest bs i) i = (hitsAt bs i, some i) := by
          have hc1' : (refBest bs i).1.length < (hitsAt bs i).length := hc1
          simp [bestStep, better, hc1']
        simp (disch := omega) [hc1, h17, v2.load, i64_in]
        exact stay x p _ (by rw [hbs]; exact hx) ownx2 (by rw [hbs]; rintro j hj; simp at hj; subst hj; rw [hmn]; exact hp2) (by simp [h0]) (by simp [h1]) (by simp [h2]) (by simp) (by simp) (by simp [h15]) (by simp [h16]) (by simp)
      · have no : bestStep bs (refBest bs i) i = refBest bs i → ∀ e3 : Env, e3 0 = a → e3 1 = r → e3 2 = .int .i64 budget → e3 7 = b → e3 8 = m → e3 15 = a → e3 16 = .int .i64 bs.length → e3 17 = .int .i64 (i + 1) → run (N e3 k2) := by
          intro hbs e3 q0 q1 q2 q7 q8 q15 q16 q17
          exact stay b m e3 (by rw [hbs]; exact hg2) hown (by rw [hbs]; intro j hj; exact (hm j hj).mono rn2) q0 q1 q2 q7 q8 q15 q16 q17
        have hc1' : ¬ (refBest bs i).1.length < (hitsAt bs i).length := hc1
        simp (disch := omega) [hc1, h7, SlR.lenV hx.slr, SlR.lenV hg2.slr]
        refine iffW_dec (fun hc2 => ?_) (fun hc2 => ?_)
        · have hc2' : (hitsAt bs i).length = (refBest bs i).1.length := by unfold hitsAt; omega
          simp (disch := omega) [hc2, SlR.lenV hx.slr]
          refine iffW_dec (fun hc3 => ?_) (fun hc3 => ?_)
          · cases hat : (refBest bs i).2 with
            | none =>
              have := refBest_none bs i hat
              rw [this] at hc3
              simp at hc3
            | some j =>
              simp (disch := omega) [hc3, h8, v2.load]
              refine bcmp_spec hp2 ((hm j hat).mono rn2) ?_
              simp
              refine iffW_dec (fun hc4 => ?_) (fun hc4 => ?_)
              · have hbs : bestStep bs (refBest bs i) i = (hitsAt bs i, some i) := by
                  simp only [bestStep, better, decide_eq_true hc2', hat, hmn, decide_eq_true hc4, Bool.and_true, Bool.or_true, if_true]
                simp (disch := omega) [hc4, h17, v2.load, i64_in]
                exact stay x p _ (by rw [hbs]; exact hx) ownx2 (by rw [hbs]; rintro j hj; simp at hj; subst hj; rw [hmn]; exact hp2) (by simp [h0]) (by simp [h1]) (by simp [h2]) (by simp) (by simp) (by simp [h15]) (by simp [h16]) (by simp)
              · have hbs : bestStep bs (refBest bs i) i = refBest bs i := by
                  simp only [bestStep, better, decide_eq_false hc1', hat, hmn, decide_eq_false hc4, Bool.and_false, Bool.or_false, Bool.false_eq_true, if_false]
                simp (disch := omega) [hc4, h17, i64_in]
                exact no hbs _ (by simp [h0]) (by simp [h1]) (by simp [h2]) (by simp [h7]) (by simp [h8]) (by simp [h15]) (by simp [h16]) (by simp)
          · have hat : (refBest bs i).2 = none := by
              cases hat : (refBest bs i).2 with
              | none => rfl
              | some j => have := refBest_pos bs i j hat; omega
            have hbs : bestStep bs (refBest bs i) i = refBest bs i := by
              simp only [bestStep, better, decide_eq_false hc1', hat, Bool.and_false, Bool.or_false, Bool.false_eq_true, if_false]
            simp (disch := omega) [hc3, h17, i64_in]
            exact no hbs _ (by simp [h0]) (by simp [h1]) (by simp [h2]) (by simp [h7]) (by simp [h8]) (by simp [h15]) (by simp [h16]) (by simp)
        · have hc2' : ¬ (hitsAt bs i).length = (refBest bs i).1.length := by unfold hitsAt; omega
          have hbs : bestStep bs (refBest bs i) i = refBest bs i := by
            simp only [bestStep, better, decide_eq_false hc1', decide_eq_false hc2', Bool.false_and, Bool.or_false, Bool.false_eq_true, if_false]
          simp (disch := omega) [hc2, h17, i64_in]
          exact no hbs _ (by simp [h0]) (by simp [h1]) (by simp [h2]) (by simp [h7]) (by simp [h8]) (by simp [h15]) (by simp [h16]) (by simp)
    · simp
      refine hX _ _ _ ?_
      have : i = bs.length := by omega
      subst this
      simp [h7]
      refine sortS_spec hO ok' hg ?_
      intro k1 l hs
      have hle1 := hs.le hle hown
      have hperm := hs.perm
      have hsl : l.length ≤ bs.length := by
        have h1 := hperm.length_eq
        rw [List.length_map] at h1
        obtain ⟨hin, hnd, _⟩ := refBest_in bs bs.length (Nat.le_refl _)
        have := nodup_le (m := List.range bs.length) hnd (fun x hx => List.mem_range.2 (hin x hx))
        rw [List.length_range] at this; omega
      simp [h7, SlR.lenV hs.rd]
      refine loop_rule (I := fun n e k => ∃ (j : Nat) (o : V) (out : List Int) (left : Int), n = l.length - j ∧ j ≤ l.length ∧ takeIds l budget = out ++ takeIds (l.drop j) left ∧ out.length ≤ j ∧ left ≤ budget ∧ -9223372036854775808 ≤ left ∧
          SlR layS 2 k.obj b l ∧ GrowR layI 1 k o out ∧ k.ok ∧ h.le k ∧ Ab.own h o ∧ e 2 = .int .i64 left ∧ e 12 = o ∧ e 56 = b ∧ e 57 = .int .i64 l.length ∧ e 58 = .int .i64 j) ?_ l.length _ _
        ⟨0, .nslc, [], budget, by simp, by simp, by simp, by simp, by omega, by omega, hs.rd, GrowR.nil _ _ _, hs.ok, hle1, .inl rfl, by simp [h2], by simp, by simp [h7], by simp, by simp⟩
      clear hX hN hR N R X h0 h1 h2 h7 h8 h15 h16 h17 e
      have hch : ∀ y, (if (takeIds l budget).length < 2 then y = [] else y.Perm (takeIds l budget) ∧ y.Pairwise (· ≤ ·)) → Chosen bs rs budget y := fun y hy => ⟨l, hperm, hs.srt, hy⟩
      rintro n e k2 ⟨j, o, out, left, rfl, hj, htake, holen, hleft, hleft2, hbl, ho, ok2, hle2, hown2, h2, h12, h56, h57, h58⟩ N R X hN hR hX
      have fin : takeIds l budget = out → ∀ (kk : Hp) (e2 : Env), GrowR layI 1 kk o out → kk.ok → h.le kk → e2 12 = o → run (codeW (A O) (.seq (.seq (.reg [Fs.a 76 (.p (.mv (t 12))), Fs.a 77 (.p (.len false (t 76))), Fs.a 78 (.p (.bin .lss (t 77) (Fs.k (.int .i64 2))))]) (.cond (t 78) (.seq (.reg [Fs.a 6 (.p (.mv (Fs.k .nslc)))]) .ret) .skip)) (.seq (.reg [Fs.a 79 (.p (.mv (t 12))), Fs.a 80 (.call N_slices_Sort_int_int [t 79])]) (.seq (.reg [Fs.a 81 (.p (.mv (t 12))), Fs.a 6 (.p (.mv (t 81)))]) .ret))) e2 kk (resW [.tmp 6] K) (resW [.tmp 6] K) (fun _ _ _ => False)) := by
        intro hout kk e2 ho okk hlek q12
        rw [hout] at hch
        simp (disch := omega) [q12, SlR.lenV ho.slr]
        refine iffW_dec (fun hc => ?_) (fun hc => ?_)
        · simp
          exact k _ _ [] (hch [] (by rw [if_pos (by omega)])) (SlR.nil _ _ _) okk hlek
        · simp [q12]
          refine sortI_spec hO okk ho ?_
          intro k3 y hs3
          simp [q12]
          exact k _ _ y (hch y (by rw [if_neg (by omega)]; exact ⟨hs3.perm, hs3.srt⟩)) hs3.rd hs3.ok (hs3.le hlek hown2)
      simp (disch := omega) [h57, h58]
      refine iffW_dec (fun hlt => ?_) (fun hge => ?_)
      · obtain ⟨_, rfl, _, _, crow, _⟩ := SlR.get hbl (List.getElem?_eq_getElem hlt)
        rw [List.drop_eq_getElem_cons hlt] at htake
        simp only [takeIds] at htake
        simp (disch := omega) [h56, h58, hbl.idx, crow]
        have okn := ok2.new (.sto [.int .i64 l[j].1, .int .i64 l[j].2] [] 0 none)
        have len := Hp.le_new k2 (.sto [.int .i64 l[j].1, .int .i64 l[j].2] [] 0 none)
        have vn := var_new k2 [.int .i64 l[j].1, .int .i64 l[j].2]
        have hx2 : k2.nx < (k2.new (.sto [.int .i64 l[j].1, .int .i64 l[j].2] [] 0 none)).nx := by simp
        generalize hk3 : k2.new _ = k3 at *
        simp [h2, vn.load]
        refine iffW_dec (fun hc => ?_) (fun hc => ?_)
        · rw [if_pos hc, List.append_nil] at htake
          simp
          refine hX _ _ _ ?_
          simp only [↓reduceIte, true_and]
          exact fin htake k3 _ (ho.le monoI ok2 len) okn (hle2.trans len) (by simp [h12])
        · rw [if_neg hc] at htake
          simp [h2, vn.load]
          have hpos : 1 ≤ l[j].2 := by
            have := hperm.mem_iff.1 (List.getElem_mem hlt)
            obtain ⟨i, _, hi⟩ := List.mem_map.1 this
            rw [← hi]; exact rowsOfZ_pos rs i
          simp (disch := omega) [h2, h12, vn.load, i64_in]
          refine app1_rule monoI (x := l[j].1) okn (ho.le monoI ok2 len) (by rfl) rfl rfl (by omega) (by omega) (by omega) ?_
          intro o4 k4 ho4 happ
          simp (disch := omega) [h58, i64_in]
          have hle3 := hle2.trans len
          refine hN _ _ _ (by omega) ⟨j + 1, o4, out ++ [l[j].1], left - l[j].2, rfl, by omega, by rw [htake]; simp, by simp; omega, by omega, by omega, ?_, ho4, happ.ok, happ.le hle3 hown2, happ.own hle3 hown2, by simp, by simp, by simp [h56], by simp [h57], by simp⟩
          exact hbl.mono ((len.rle ok2).trans happ.rle) (fun _ _ h => h)
      · simp
        refine hX _ _ _ ?_
        simp only [↓reduceIte, true_and]
        rw [List.drop_eq_nil_of_le (by omega)] at htake
        exact fin (by simpa [takeIds] using htake) k2 _ ho ok2 hle2 (by simp [h12])
end Go.Ab.Fs
