/- MergeChooses: the reference's next. -/
import Derived.Test.YtpphdocfglmffaaGreatDoorMc2
set_option linter.unusedVariables false
set_option linter.unusedSimpArgs false
namespace Go.Ab.Fs
open Go.IntWalk
set_option linter.unusedSimpArgs false
set_option linter.unusedVariables false
variable {O : Orc}

def idAt (bs : List Bnd) (i : Nat) : Int := match bs[i]? with | some b => b.id | none => 0
/-- does place i come ahead of place j? -/
def ahead (bs : List Bnd) (rs : List Int) (i j : Nat) : Bool := decide (rowsOfZ rs i < rowsOfZ rs j) || decide (rowsOfZ rs i = rowsOfZ rs j) && decide (idAt bs i < idAt bs j)
def nextStep (bs : List Bnd) (rs : List Int) (taken : List Nat) (at' : Option Nat) (k : Nat) : Option Nat :=
  if k ∈ taken then at' else match at' with
    | none => some k
    | some j => if ahead bs rs k j then some k else some j
def nextF (bs : List Bnd) (rs : List Int) (best taken : List Nat) : Option Nat := best.foldl (nextStep bs rs taken) none
def optZ : Option Nat → Int
  | none => -1
  | some j => j

theorem zs_get (l : List Nat) (i : Nat) (h : i < l.length) : (zs l)[i]? = some (l[i] : Int) := by simp [zs, h]
theorem zs_length (l : List Nat) : (zs l).length = l.length := by simp [zs]
abbrev Nats (H : Obs) (a : V) (l : List Nat) : Prop := Ints H a (zs l)
theorem Nats.lenV {H : Obs} {a : V} {l : List Nat} (h : Nats H a l) : Ab.lenV a = some (.int .i64 (l.length : Nat)) := by rw [SlR.lenV h, zs_length]
theorem Nats.idx {H : Obs} {a : V} {l : List Nat} (h : Nats H a l) (j : Int) (h0 : 0 ≤ j) (h1 : j < l.length) : idxV 1 a (.int .i64 j) = some (elP a 1 j.toNat 0) := SlR.idx h j h0 (by rw [zs_length]; exact h1)
theorem Nats.get {H : Obs} {a : V} {l : List Nat} (h : Nats H a l) {i : Nat} (hi : i < l.length) : loadV H none (elP a 1 i 0) = some (.int .i64 (l[i] : Int)) := Ints.get h (zs_get l i hi)
theorem optZ_lt (o : Option Nat) : optZ o < 0 ↔ o = none := by cases o <;> simp [optZ]

theorem mem_take_succ {l : List Nat} {i x : Nat} (h : i < l.length) : x ∈ l.take (i + 1) ↔ x ∈ l.take i ∨ l[i] = x := by
  rw [take_snoc h, List.mem_append, List.mem_singleton]
  exact or_congr Iff.rfl ⟨fun h => h.symm, fun h => h.symm⟩

theorem next_spec {h : Hp} {a r b c : V} {bs : List Bnd} {rs : List Int} {best taken : List Nat} {K : V → Hp → Prop} (ha : Bnds h.obj a bs) (hr : Ints h.obj r rs) (hb : Nats h.obj b best) (hc : Nats h.obj c taken)
    (hin : ∀ k ∈ best, k < bs.length) (k : run (K (.int .i64 (optZ (nextF bs rs best taken))) h)) : callW (A O) N_stoaref24_next [a, r, b, c] h K := by
  refine callW_enter a_stoaref24_next ?_
  have lb := hb.lim
  have lc := hc.lim
  rw [zs_length] at lb lc
  simp (disch := omega) [F_stoaref24_next]
  refine loop_rule (I := fun m e k => ∃ (i : Nat) (at' : Option Nat), m = best.length - i ∧ i ≤ best.length ∧ at' = (best.take i).foldl (nextStep bs rs taken) none ∧ (∀ j, at' = some j → j < bs.length) ∧ h = k ∧ e 0 = a ∧ e 1 = r ∧ e 2 = b ∧ e 3 = c ∧ e 9 = .int .i64 (optZ at') ∧ e 10 = .int .i64 i) ?_ best.length _ _
    ⟨0, none, by simp, by simp, by simp, by simp, by simp, by simp, by simp, by simp, by simp, by simp [optZ], by simp⟩
  rintro m e _ ⟨i, at', rfl, hi, hat, hatl, rfl, h0, h1, h2, h3, h9, h10⟩ N R X hN hR hX
  simp (disch := omega) [h2, h10, Nats.lenV hb]
  refine iffW_dec (fun hlt => ?_) (fun hge => ?_)
  · have hx := Nats.get hb hlt
    have hkl : best[i] < bs.length := hin _ (List.getElem_mem hlt)
    simp (disch := omega) [h2, h10, Nats.idx hb, hx]
    refine loop_rule (I := fun m e k => ∃ (jj : Nat), m = taken.length - jj ∧ jj ≤ taken.length ∧ h = k ∧ e 0 = a ∧ e 1 = r ∧ e 2 = b ∧ e 3 = c ∧ e 9 = .int .i64 (optZ at') ∧ e 10 = .int .i64 i ∧ e 11 = .int .i64 best[i] ∧ e 12 = .bool (decide (best[i] ∈ taken.take jj)) ∧ e 13 = .int .i64 jj) ?_ taken.length _ _
      ⟨0, by simp, by simp, rfl, by simp [h0], by simp [h1], by simp [h2], by simp [h3], by simp [h9], by simp [h10], by simp, by simp, by simp⟩
    rintro m2 e2 _ ⟨jj, rfl, hjj, rfl, g0, g1, g2, g3, g9, g10, g11, g12, g13⟩ N2 R2 X2 hN2 hR2 hX2
    simp (disch := omega) [g3, g13, Nats.lenV hc]
    refine iffW_dec (fun hlt2 => ?_) (fun hge2 => ?_)
    · have hy := Nats.get hc hlt2
      have htk := take_snoc hlt2
      simp (disch := omega) [g12]
      refine iffW_dec (fun hm => ?_) (fun hm => ?_)
      · simp (disch := omega) [hm, g13, i64_in]
        exact hN2 _ _ _ (by omega) ⟨jj + 1, rfl, by omega, rfl, by simp [g0], by simp [g1], by simp [g2], by simp [g3], by simp [g9], by simp [g10], by simp [g11], by simp [mem_take_succ hlt2, hm], by simp⟩
      · simp (disch := omega) [hm, g3, g11, g13, Nats.idx hc, hy]
        simp (disch := omega) [hm, g13, i64_in]
        refine hN2 _ _ _ (by omega) ⟨jj + 1, rfl, by omega, rfl, by simp [g0], by simp [g1], by simp [g2], by simp [g3], by simp [g9], by simp [g10], by simp [g11], ?_, by simp⟩
        simp [mem_take_succ hlt2, hm]
        omega
    · simp
      refine hX2 _ _ _ ?_
      rw [List.take_of_length_le (by omega)] at g12
      have hsucc : (best.take (i + 1)).foldl (nextStep bs rs taken) none = nextStep bs rs taken at' best[i] := by
        rw [take_snoc hlt, List.foldl_append, ← hat]; rfl
      simp [g12]
      refine iffW_ndec (fun hm => ?_) (fun hm => ?_)
      · cases hat' : at' with
        | none =>
          simp (disch := omega) [g9, g10, g11, hm, hat', optZ, i64_in]
          refine hN _ _ _ (by omega) ⟨i + 1, _, rfl, by omega, hsucc.symm, ?_, rfl, by simp [g0], by simp [g1], by simp [g2], by simp [g3], ?_, by simp⟩
          · intro j hj; simp [nextStep, hm, hat'] at hj; omega
          · simp [nextStep, hm, hat', optZ]
        | some j =>
          have hj := hatl j hat'
          simp (disch := omega) [g1, g9, g10, g11, hm, hat', optZ]
          refine rowsOf_spec hr ?_
          simp (disch := omega) [g1, g9, g10, g11, hm, hat', optZ]
          refine rowsOf_spec hr ?_
          simp
          have fin : ∀ (w : Option Nat) (e3 : Env), w = nextStep bs rs taken at' best[i] → e3 0 = a → e3 1 = r → e3 2 = b → e3 3 = c → e3 9 = .int .i64 (optZ w) → e3 10 = .int .i64 (i + 1) → run (N e3 h) := by
            intro w e3 hw q0 q1 q2 q3 q9 q10
            refine hN _ _ _ (by omega) ⟨i + 1, w, rfl, by omega, by rw [hsucc, hw], ?_, rfl, q0, q1, q2, q3, q9, by simp [q10]⟩
            intro j' hj'
            rw [hw] at hj'
            simp only [nextStep, hm, hat', if_false] at hj'
            split at hj' <;> simp at hj' <;> omega
          obtain ⟨p1, q1, _, _, _, c1, _, _⟩ := Bnds.get ha (List.getElem?_eq_getElem hkl)
          obtain ⟨p2, q2, _, _, _, c2, _, _⟩ := Bnds.get ha (List.getElem?_eq_getElem hj)
          have e1 : idAt bs best[i] = bs[best[i]].id := by simp [idAt, hkl]
          have e2 : idAt bs j = bs[j].id := by simp [idAt, hj]
          refine iffW_dec (fun hc1 => ?_) (fun hc1 => ?_)
          · simp (disch := omega) [hc1, hm, g0, g1, g9, g10, g11, hat', optZ, i64_in]
            exact fin (some best[i]) _ (by simp [nextStep, hm, hat', ahead, hc1]) (by simp [g0]) (by simp [g1]) (by simp [g2]) (by simp [g3]) (by simp [optZ]) (by simp)
          · simp (disch := omega) [hc1, hm, g0, g1, g9, g10, g11, hat', optZ]
            refine rowsOf_spec hr ?_
            simp (disch := omega) [hc1, hm, g0, g1, g9, g10, g11, hat', optZ]
            refine rowsOf_spec hr ?_
            simp
            refine iffW_dec (fun hc2 => ?_) (fun hc2 => ?_)
            · simp (disch := omega) [hc2, hm, g0, g1, g9, g10, g11, hat', optZ, ha.idx, c1, c2]
              refine iffW_dec (fun hc3 => ?_) (fun hc3 => ?_)
              · simp (disch := omega) [hc3, hm, g0, g1, g9, g10, g11, hat', optZ, i64_in]
                exact fin (some best[i]) _ (by simp [nextStep, hm, hat', ahead, hc1, hc2, e1, e2, hc3]) (by simp [g0]) (by simp [g1]) (by simp [g2]) (by simp [g3]) (by simp [optZ]) (by simp)
              · simp (disch := omega) [hc3, hm, g0, g1, g9, g10, g11, hat', optZ, i64_in]
                exact fin (some j) _ (by simp [nextStep, hm, hat', ahead, hc1, hc2, e1, e2, hc3]) (by simp [g0]) (by simp [g1]) (by simp [g2]) (by simp [g3]) (by simp [g9, hat', optZ]) (by simp)
            · simp (disch := omega) [hc2, hm, g0, g1, g9, g10, g11, hat', optZ, i64_in]
              exact fin (some j) _ (by simp [nextStep, hm, hat', ahead, hc1, hc2]) (by simp [g0]) (by simp [g1]) (by simp [g2]) (by simp [g3]) (by simp [g9, hat', optZ]) (by simp)
      · simp (disch := omega) [hm, g10, i64_in]
        refine hN _ _ _ (by omega) ⟨i + 1, _, rfl, by omega, hsucc.symm, ?_, rfl, by simp [g0], by simp [g1], by simp [g2], by simp [g3], ?_, by simp⟩
        · intro j hj; simp [nextStep, hm] at hj; exact hatl j hj
        · simp [nextStep, hm, g9]
  · simp
    refine hX _ _ _ ?_
    simp [h9]
    rw [List.take_of_length_le (by omega)] at hat
    rw [hat]
    exact k
end Go.Ab.Fs
