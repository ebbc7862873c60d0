/- MergeChooses: what the smaller functions answer. -/
import Derived.Test.YtpphdocfglmffaaGreatDoorAbFt
import Derived.Test.YtpphdocfglmffaaGreatDoorAbSy
set_option linter.unusedVariables false
set_option linter.unusedSimpArgs false
namespace Go.Ab.Fs
open Go.IntWalk
set_option linter.unusedSimpArgs false
variable {O : Orc}

abbrev cmpB := Lib.compareBytes

theorem cmpB_nil_r (xs : List UInt8) : cmpB xs [] = if xs.length = 0 then 0 else 1 := by cases xs <;> simp [Lib.compareBytes]
theorem cmpB_nil_l (xs : List UInt8) : cmpB [] xs = if xs.length = 0 then 0 else -1 := by cases xs <;> simp [Lib.compareBytes]

theorem u8_lt (x y : UInt8) : ((x.toNat : Int) < (y.toNat : Int)) ↔ x < y := by rw [UInt8.lt_iff_toNat_lt]; omega

theorem order_spec {h : Hp} {a b : V} {xs ys : List UInt8} {K : V → Hp → Prop} (ha : Byts h.obj a xs) (hb : Byts h.obj b ys) (k : run (K (.int .i64 (cmpB xs ys)) h)) :
    callW (A O) N_stoaref05_Order [a, b] h K := by
  refine callW_enter a_stoaref05_Order ?_
  have la := ha.lim
  have lb := hb.lim
  simp (disch := omega) [F_stoaref05_Order]
  refine loop_rule (I := fun n e k => ∃ i : Nat, n = xs.length - i ∧ i ≤ xs.length ∧ i ≤ ys.length ∧ cmpB xs ys = cmpB (xs.drop i) (ys.drop i) ∧ k = h ∧ e 0 = a ∧ e 1 = b ∧ e 5 = .int .i64 i) ?_ xs.length _ _ ⟨0, by simp⟩
  rintro n e _ ⟨i, rfl, hi, hi2, hs, rfl, h0, h1, h5⟩ N R X hN hR hX
  simp (disch := omega) [h0, h1, h5, ha.lenV, hb.lenV]
  refine iffW_dec (fun hlt => ?_) (fun hge => ?_)
  · simp (disch := omega) [h0, h1, h5, ha.lenV, hb.lenV, hlt]
    refine iffW_dec (fun hlt2 => ?_) (fun hge2 => ?_)
    · have hx := ha.get (List.getElem?_eq_getElem hlt)
      have hy := hb.get (List.getElem?_eq_getElem hlt2)
      have hstep : cmpB (xs.drop i) (ys.drop i) = if xs[i] < ys[i] then -1 else if ys[i] < xs[i] then 1 else cmpB (xs.drop (i + 1)) (ys.drop (i + 1)) := by
        rw [List.drop_eq_getElem_cons hlt, List.drop_eq_getElem_cons hlt2]; rfl
      simp (disch := omega) [h0, h1, h5, ha.idx, hb.idx, hx, hy]
      refine iffW_dec (fun hl => ?_) (fun hl => ?_)
      · simp
        refine hR _ _ ?_
        rw [hs, hstep, if_pos (UInt8.lt_iff_toNat_lt.2 hl)] at k; simpa using k
      · simp (disch := omega) [h0, h1, h5, ha.idx, hb.idx, hx, hy]
        rw [if_neg (fun hh => hl (UInt8.lt_iff_toNat_lt.1 hh))] at hstep
        refine iffW_dec (fun hl2 => ?_) (fun hl2 => ?_)
        · simp
          refine hR _ _ ?_
          rw [hs, hstep, if_pos (UInt8.lt_iff_toNat_lt.2 hl2)] at k; simpa using k
        · rw [if_neg (fun hh => hl2 (UInt8.lt_iff_toNat_lt.1 hh))] at hstep
          simp (disch := omega) [h0, h1, h5, i64_in]
          exact hN _ _ _ (by omega) ⟨i + 1, rfl, by omega, by omega, by rw [hs, hstep], rfl, by simp [*], by simp [*], by simp⟩
    · simp (disch := omega) [h0, h1, h5, ha.lenV, hb.lenV]
      refine hX _ _ _ ?_
      simp (disch := omega) [h0, h1, h5, ha.lenV, hb.lenV]
      have hys : ys.drop i = [] := List.drop_eq_nil_of_le (by omega)
      rw [hs, hys, cmpB_nil_r, if_neg (by rw [List.length_drop]; omega)] at k
      refine iffW_dec (fun hh => by omega) (fun hh => ?_)
      simp (disch := omega) [h0, h1, h5, ha.lenV, hb.lenV]
      refine iffW_dec (fun hh => ?_) (fun hh => by omega)
      simpa using k
  · have hxs : xs.drop i = [] := List.drop_eq_nil_of_le (by omega)
    rw [hs, hxs, cmpB_nil_l, List.length_drop] at k
    simp (disch := omega) [h0, h1, h5, ha.lenV, hb.lenV, hge]
    refine hX _ _ _ ?_
    simp (disch := omega) [h0, h1, h5, ha.lenV, hb.lenV]
    refine iffW_dec (fun hl => ?_) (fun hl => ?_)
    · rw [if_neg (by omega)] at k; simpa using k
    · rw [if_pos (by omega)] at k
      simp (disch := omega) [h0, h1, h5, ha.lenV, hb.lenV]
      refine iffW_dec (fun hh => by omega) (fun hh => ?_)
      simpa using k

theorem bytesV_lay : ∀ {rows : List (List V)} {xs : List UInt8}, rows.length = xs.length → (∀ (i : Nat) (x : UInt8) (r : List V), xs[i]? = some x → rows[i]? = some r → r = [.int .u8 x.toNat]) → bytesV rows.flatten = some xs
  | [], [], _, _ => rfl
  | r :: rows, x :: xs, hl, h => by
    have h0 := h 0 x r rfl rfl
    subst h0
    have ih : bytesV rows.flatten = some xs := bytesV_lay (rows := rows) (xs := xs) (by simpa using hl) (fun i y r hy hr => h (i + 1) y r (by simpa using hy) (by simpa using hr))
    rw [List.flatten_cons, List.singleton_append]; simp [bytesV, ih]
  | [], _ :: _, hl, _ => by simp at hl
  | _ :: _, [], hl, _ => by simp at hl

theorem _root_.Go.Ab.SlR.bytes {H : Obs} {a : V} {xs : List UInt8} (h : Byts H a xs) : bytesOf H a = some xs := by
  obtain ⟨rows, h1, h2, h3⟩ := h.rd
  rcases h1.shape with ⟨rfl, rfl⟩ | ⟨s, g, o, c, rfl, _, hrd⟩
  · have : xs = [] := List.eq_nil_of_length_eq_zero (by simpa using h2.symm)
    subst this; rfl
  · simp only [bytesOf]
    rw [Nat.mul_one] at hrd
    rw [hrd]
    exact bytesV_lay h2 h3

def bcmpV (H : Obs) (a b : V) : Option V := (bytesOf H a).bind fun x => (bytesOf H b).map fun y => .int .i64 (Lib.compareBytes x y)
@[simp ↓] theorem ev_bcmp (e : Env) (H : Obs) (a b : Opd) : R1.ev e H (.bcmp a b) = bcmpV H (a.val e) (b.val e) := rfl

theorem bcmp_spec {h : Hp} {a b : V} {xs ys : List UInt8} {K : V → Hp → Prop} (ha : Byts h.obj a xs) (hb : Byts h.obj b ys) (k : run (K (.int .i64 (cmpB xs ys)) h)) :
    callW (A O) N_bytes_Compare [a, b] h K := by
  refine callW_enter a_bytes_Compare ?_
  simp (disch := omega) [F_bytes_Compare, bcmpV, ha.bytes, hb.bytes]
  exact k

theorem has_spec {h : Hp} {a : V} {xs : List Int} {n : Int} {K : V → Hp → Prop} (ha : Ints h.obj a xs) (k : run (K (.bool (decide (n ∈ xs))) h)) :
    callW (A O) N_stoalaw24_has [a, .int .i64 n] h K := by
  refine callW_enter a_stoalaw24_has ?_
  have la := ha.lim
  simp (disch := omega) [F_stoalaw24_has, ha.lenV]
  refine loop_rule (I := fun m e k => ∃ i : Nat, m = xs.length - i ∧ i ≤ xs.length ∧ (∀ j, j < i → xs[j]? ≠ some n) ∧ k = h ∧ e 1 = .int .i64 n ∧ e 7 = a ∧ e 8 = .int .i64 xs.length ∧ e 9 = .int .i64 i) ?_ xs.length _ _ ⟨0, by simp⟩
  rintro m e _ ⟨i, rfl, hi, hs, rfl, h1, h7, h8, h9⟩ N R X hN hR hX
  simp (disch := omega) [h1, h7, h8, h9]
  refine iffW_dec (fun hlt => ?_) (fun hge => ?_)
  · have hx := ha.get (List.getElem?_eq_getElem hlt)
    simp (disch := omega) [h1, h7, h8, h9, ha.idx, hx]
    refine iffW_dec (fun he => ?_) (fun hne => ?_)
    · simp
      refine hR _ _ ?_
      rw [decide_eq_true (by rw [← he]; exact List.getElem_mem hlt)] at k; simpa using k
    · simp (disch := omega) [h1, h7, h8, h9, i64_in]
      refine hN _ _ _ ?_ ⟨i + 1, rfl, by omega, ?_, rfl, by simp [*], by simp [*], by simp [*], by simp⟩
      · omega
      · intro j hj
        by_cases hji : j = i
        · subst hji; rw [List.getElem?_eq_getElem hlt]; simpa using hne
        · exact hs j (by omega)
  · simp
    refine hX _ _ _ ?_
    rw [decide_eq_false] at k
    · simpa using k
    · intro hm
      obtain ⟨j, hj, hjn⟩ := List.mem_iff_getElem.1 hm
      exact hs j (by omega) (by rw [List.getElem?_eq_getElem hj, hjn])

def rowsOfZ (rs : List Int) (i : Nat) : Int := match rs[i]? with | some r => if 1 < r then r else 1 | none => 1

theorem rowsOf_spec {h : Hp} {a : V} {rs : List Int} {i : Nat} {K : V → Hp → Prop} (ha : Ints h.obj a rs) (k : run (K (.int .i64 (rowsOfZ rs i)) h)) :
    callW (A O) N_stoaref24_rowsOf [a, .int .i64 i] h K := by
  refine callW_enter a_stoaref24_rowsOf ?_
  have la := ha.lim
  simp (disch := omega) [F_stoaref24_rowsOf, ha.lenV]
  refine iffW_dec (fun hlt => ?_) (fun hge => ?_)
  · have hx := ha.get (List.getElem?_eq_getElem hlt)
    simp (disch := omega) [ha.idx, hx, hlt]
    simp only [rowsOfZ, List.getElem?_eq_getElem hlt] at k
    refine iffW_dec (fun h1 => ?_) (fun h1 => ?_)
    · rw [if_pos h1] at k; simpa (disch := omega) [ha.idx, hx] using k
    · rw [if_neg h1] at k; simpa using k
  · simp [hge]
    simp only [rowsOfZ, List.getElem?_eq_none (show rs.length ≤ i by omega)] at k
    exact k

theorem same01_spec {h : Hp} {a b : V} {xs ys : List UInt8} {K : V → Hp → Prop} (ha : Byts h.obj a xs) (hb : Byts h.obj b ys) (k : run (K (.bool (decide (xs = ys))) h)) :
    callW (A O) N_stoaref01_Same [a, b] h K := by
  refine callW_enter a_stoaref01_Same ?_
  have la := ha.lim
  have lb := hb.lim
  simp (disch := omega) [F_stoaref01_Same, ha.lenV, hb.lenV]
  refine iffW_ndec (fun hn => ?_) (fun hn => ?_)
  · rw [decide_eq_false (fun h => hn (by rw [h]))] at k
    simpa using k
  simp
  refine loop_rule (I := fun n e k => ∃ i : Nat, n = xs.length - i ∧ i ≤ xs.length ∧ (∀ j, j < i → xs[j]? = ys[j]?) ∧ k = h ∧ e 0 = a ∧ e 1 = b ∧ e 5 = .int .i64 i) ?_ xs.length _ _ ⟨0, by simp⟩
  rintro n e _ ⟨i, rfl, hi, hs, rfl, h0, h1, h5⟩ N R X hN hR hX
  simp (disch := omega) [h0, h1, h5, ha.lenV, hb.lenV]
  refine iffW_dec (fun hlt => ?_) (fun hge => ?_)
  · have hx := ha.get (List.getElem?_eq_getElem hlt)
    have hy := hb.get (List.getElem?_eq_getElem (show i < ys.length by omega))
    simp (disch := omega) [h0, h1, h5, ha.idx, hb.idx, hx, hy, i64_in]
    refine iffW_ndec (fun hne => ?_) (fun heq => ?_)
    · rw [decide_eq_false (fun h => hne (by subst h; rfl))] at k
      simp
      refine hR _ _ ?_
      simpa using k
    · simp (disch := omega) [h0, h1, h5, i64_in]
      refine hN _ _ _ ?_ ⟨i + 1, rfl, by omega, ?_, rfl, by simp [*], by simp [*], by simp⟩
      · omega
      · intro j hj
        by_cases hji : j = i
        · subst hji
          have : xs[j] = ys[j] := UInt8.toNat_inj.1 (by omega)
          rw [List.getElem?_eq_getElem hlt, List.getElem?_eq_getElem (show j < ys.length by omega), this]
        · exact hs j (by omega)
  · have : xs = ys := by
      apply List.ext_getElem?
      intro j
      by_cases hj : j < i
      · exact hs j hj
      · rw [List.getElem?_eq_none (by omega), List.getElem?_eq_none (by omega)]
    rw [decide_eq_true this] at k
    simp
    refine hX _ _ _ ?_
    simpa using k

theorem sameInts_spec {h : Hp} {a b : V} {xs ys : List Int} {K : V → Hp → Prop} (ha : Ints h.obj a xs) (hb : Ints h.obj b ys) (k : run (K (.bool (decide (xs = ys))) h)) :
    callW (A O) N_stoaref18_SameInts [a, b] h K := by
  refine callW_enter a_stoaref18_SameInts ?_
  have la := ha.lim
  have lb := hb.lim
  simp (disch := omega) [F_stoaref18_SameInts, ha.lenV, hb.lenV]
  refine iffW_ndec (fun hn => ?_) (fun hn => ?_)
  · rw [decide_eq_false (fun h => hn (by rw [h]))] at k
    simpa using k
  simp
  refine loop_rule (I := fun n e k => ∃ i : Nat, n = xs.length - i ∧ i ≤ xs.length ∧ (∀ j, j < i → xs[j]? = ys[j]?) ∧ k = h ∧ e 0 = a ∧ e 1 = b ∧ e 5 = .int .i64 i) ?_ xs.length _ _ ⟨0, by simp⟩
  rintro n e _ ⟨i, rfl, hi, hs, rfl, h0, h1, h5⟩ N R X hN hR hX
  simp (disch := omega) [h0, h1, h5, ha.lenV, hb.lenV]
  refine iffW_dec (fun hlt => ?_) (fun hge => ?_)
  · have hx := ha.get (List.getElem?_eq_getElem hlt)
    have hy := hb.get (List.getElem?_eq_getElem (show i < ys.length by omega))
    simp (disch := omega) [h0, h1, h5, ha.idx, hb.idx, hx, hy, i64_in]
    refine iffW_ndec (fun hne => ?_) (fun heq => ?_)
    · rw [decide_eq_false (fun h => hne (by subst h; rfl))] at k
      simp
      refine hR _ _ ?_
      simpa using k
    · simp (disch := omega) [h0, h1, h5, i64_in]
      refine hN _ _ _ ?_ ⟨i + 1, rfl, by omega, ?_, rfl, by simp [*], by simp [*], by simp⟩
      · omega
      · intro j hj
        by_cases hji : j = i
        · subst hji; rw [List.getElem?_eq_getElem hlt, List.getElem?_eq_getElem (show j < ys.length by omega), heq]
        · exact hs j (by omega)
  · have : xs = ys := by
      apply List.ext_getElem?
      intro j
      by_cases hj : j < i
      · exact hs j hj
      · rw [List.getElem?_eq_none (by omega), List.getElem?_eq_none (by omega)]
    rw [decide_eq_true this] at k
    simp
    refine hX _ _ _ ?_
    simpa using k

theorem take_snoc {α : Type} {xs : List α} {i : Nat} (h : i < xs.length) : xs.take (i + 1) = xs.take i ++ [xs[i]] := by
  rw [List.take_add_one, List.getElem?_eq_getElem h]; rfl

theorem copy_spec {h : Hp} {a : V} {xs : List UInt8} {K : V → Hp → Prop} (ok : h.ok) (ha : Byts h.obj a xs) (hl : xs.length ≤ 1099511627775)
    (k : ∀ b h', GrowR layB 1 h' b xs → h'.ok → h.le h' → own h b → run (K b h')) : callW (A O) N_stoaref01_Copy [a] h K := by
  refine callW_enter a_stoaref01_Copy ?_
  simp (disch := omega) [F_stoaref01_Copy]
  refine loop_rule (I := fun n e k => ∃ (i : Nat) (b : V), n = xs.length - i ∧ i ≤ xs.length ∧ GrowR layB 1 k b (xs.take i) ∧ k.ok ∧ h.le k ∧ own h b ∧ e 0 = a ∧ e 3 = b ∧ e 4 = .int .i64 i) ?_ xs.length _ _
    ⟨0, _, by simp, by simp, by simpa using GrowR.empty layB 1 h, ok.new _, Hp.le_new _ _, .inr (by simp), by simp⟩
  rintro n e k' ⟨i, b, rfl, hi, hg, ok', hle, hown, h0, h3, h4⟩ N R X hN hR hX
  have ha' := ha.mono (hle.rle ok)
  simp (disch := omega) [h0, h3, h4, ha'.lenV]
  refine iffW_dec (fun hlt => ?_) (fun hge => ?_)
  · have hx := ha'.get (List.getElem?_eq_getElem hlt)
    simp (disch := omega) [h0, h3, h4, ha'.idx, hx, i64_in]
    refine app1_rule monoB (x := xs[i]) ok' hg (by rfl) rfl rfl (by omega) (by omega) (by simp; omega) ?_
    intro b' h' hg' happ
    simp (disch := omega) [h4, i64_in]
    exact hN _ _ _ (by omega) ⟨i + 1, b', rfl, by omega, by rw [take_snoc hlt]; exact hg', happ.ok, happ.le hle hown, happ.own hle hown, by simp [h0], by simp, by simp⟩
  · simp
    refine hX _ _ _ ?_
    simp [h3]
    rw [List.take_of_length_le (by omega)] at hg
    exact k _ _ hg ok' hle hown
end Go.Ab.Fs
