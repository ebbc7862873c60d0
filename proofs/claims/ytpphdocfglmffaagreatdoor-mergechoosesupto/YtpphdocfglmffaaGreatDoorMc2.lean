/- MergeChooses: spans that are read; the reference's smaller functions. -/
import Derived.Test.YtpphdocfglmffaaGreatDoorMc1
set_option linter.unusedVariables false
set_option linter.unusedSimpArgs false
namespace Go.Ab.Fs
open Go.IntWalk
set_option linter.unusedSimpArgs false
set_option linter.unusedVariables false
variable {O : Orc}

structure Bnd where
  id : Int
  mn : List UInt8
  mx : List UInt8
def layBd : Lay Bnd := fun H x r => ∃ a b, r = [.int .i64 x.id, a, b] ∧ Byts H a x.mn ∧ Byts H b x.mx
theorem monoBd : MonoL layBd := fun H K x r hl ⟨a, b, h1, h2, h3⟩ => ⟨a, b, h1, h2.mono hl, h3.mono hl⟩
abbrev Bnds (H : Obs) (a : V) (xs : List Bnd) : Prop := SlR layBd 3 H a xs

theorem Bnds.get {H : Obs} {a : V} {xs : List Bnd} (h : Bnds H a xs) {i : Nat} {x : Bnd} (hi : xs[i]? = some x) :
    ∃ p q, Byts H p x.mn ∧ Byts H q x.mx ∧ loadV H (some 3) (elP a 3 i 0) = some (.agg [.int .i64 x.id, p, q]) ∧ loadV H none (elP a 3 i 0) = some (.int .i64 x.id) ∧ loadV H none (elP a 3 i 1) = some p ∧ loadV H none (elP a 3 i 2) = some q := by
  obtain ⟨r, ⟨p, q, rfl, h2, h3⟩, _, _, h4, h5⟩ := SlR.get h hi
  exact ⟨p, q, h2, h3, h4, h5 0 _ rfl, h5 1 _ rfl, h5 2 _ rfl⟩

def hit (b : Bnd) (key : List UInt8) : Bool := decide (cmpB b.mn key ≤ 0) && decide (cmpB key b.mx ≤ 0)
def hitsTo (bs : List Bnd) (key : List UInt8) (n : Nat) : List Nat := (List.range n).filter fun i => match bs[i]? with | some b => hit b key | none => false
def zs (l : List Nat) : List Int := l.map Int.ofNat

theorem hitsTo_succ {bs : List Bnd} {key : List UInt8} {i : Nat} (h : i < bs.length) : hitsTo bs key (i + 1) = hitsTo bs key i ++ if hit bs[i] key then [i] else [] := by
  unfold hitsTo
  rw [List.range_succ, List.filter_append, List.filter_cons, List.getElem?_eq_getElem h]
  rfl
theorem hitsTo_length (bs : List Bnd) (key : List UInt8) (n : Nat) : (hitsTo bs key n).length ≤ n := by
  have := List.length_filter_le (fun i => match bs[i]? with | some b => hit b key | none => false) (List.range n)
  simpa [hitsTo] using this
theorem zs_append (a b : List Nat) : zs (a ++ b) = zs a ++ zs b := by simp [zs]

theorem hits_spec {h : Hp} {a q : V} {bs : List Bnd} {key : List UInt8} {K : V → Hp → Prop} (ok : h.ok) (ha : Bnds h.obj a bs) (hq : Byts h.obj q key) (hl : bs.length ≤ 137438953471)
    (k : ∀ b h', GrowR layI 1 h' b (zs (hitsTo bs key bs.length)) → h'.ok → h.le h' → own h b → run (K b h')) : callW (A O) N_stoaref24_hits [a, q] h K := by
  refine callW_enter a_stoaref24_hits ?_
  simp (disch := omega) [F_stoaref24_hits]
  refine loop_rule (I := fun n e k => ∃ (i : Nat) (b : V), n = bs.length - i ∧ i ≤ bs.length ∧ GrowR layI 1 k b (zs (hitsTo bs key i)) ∧ k.ok ∧ h.le k ∧ own h b ∧ e 0 = a ∧ e 1 = q ∧ e 5 = b ∧ e 6 = .int .i64 i) ?_ bs.length _ _
    ⟨0, .slc h.nx 0 0 0 0 1, by simp, by simp, by simpa [zs, hitsTo] using GrowR.empty layI 1 h, ok.new _, Hp.le_new _ _, .inr (by simp), by simp⟩
  rintro n e k' ⟨i, b, rfl, hi, hg, ok', hle, hown, h0, h1, h5, h6⟩ N R X hN hR hX
  have hr := hle.rle ok
  have ha' := ha.mono hr (fun _ _ => monoBd _ _ _ _ hr)
  have hq' := hq.mono hr
  simp (disch := omega) [h0, h1, h5, h6, ha'.lenV]
  refine iffW_dec (fun hlt => ?_) (fun hge => ?_)
  · obtain ⟨p, r, hp, hrr, _, _, c1, c2⟩ := Bnds.get ha' (List.getElem?_eq_getElem hlt)
    simp (disch := omega) [h0, h1, h5, h6, ha'.idx, c1, c2]
    refine order_spec hp hq' ?_
    simp
    refine iffW_dec (fun hc1 => ?_) (fun hc1 => ?_)
    · simp (disch := omega) [h0, h1, h5, h6, ha'.idx, c1, c2, hc1]
      refine order_spec hq' hrr ?_
      simp [hc1]
      refine iffW_dec (fun hc2 => ?_) (fun hc2 => ?_)
      · simp (disch := omega) [h5, h6]
        refine app1_rule monoI (x := (i : Int)) ok' hg (by rfl) rfl rfl (by omega) (by omega) ?_ ?_
        · have := hitsTo_length bs key i
          simp [zs]; omega
        intro b' h' hg' happ
        simp (disch := omega) [h6, i64_in]
        refine hN _ _ _ (by omega) ⟨i + 1, b', rfl, by omega, ?_, happ.ok, happ.le hle hown, happ.own hle hown, by simp [h0], by simp [h1], by simp, by simp⟩
        rw [hitsTo_succ hlt, if_pos (by simp [hit, hc1, hc2]), zs_append]
        exact hg'
      · simp (disch := omega) [h6, i64_in]
        refine hN _ _ _ (by omega) ⟨i + 1, b, rfl, by omega, ?_, ok', hle, hown, by simp [h0], by simp [h1], by simp [h5], by simp⟩
        rw [hitsTo_succ hlt, if_neg (by simp [hit, hc1, hc2]), List.append_nil]
        exact hg
    · simp (disch := omega) [h6, i64_in, hc1]
      refine hN _ _ _ (by omega) ⟨i + 1, b, rfl, by omega, ?_, ok', hle, hown, by simp [h0], by simp [h1], by simp [h5], by simp⟩
      rw [hitsTo_succ hlt, if_neg (by simp [hit, hc1]), List.append_nil]
      exact hg
  · simp
    refine hX _ _ _ ?_
    simp [h5]
    have : i = bs.length := by omega
    subst this
    exact k _ _ hg ok' hle hown

/-- numbers rising, with one more -/
def putZ (n : Int) : List Int → List Int
  | [] => [n]
  | x :: r => if n < x then n :: x :: r else x :: putZ n r
theorem putZ_length (n : Int) : ∀ xs : List Int, (putZ n xs).length = xs.length + 1
  | [] => rfl
  | x :: r => by simp only [putZ]; split <;> simp [putZ_length n r]

theorem put_spec {h : Hp} {a : V} {xs : List Int} {n : Int} {K : V → Hp → Prop} (ok : h.ok) (ha : Ints h.obj a xs) (hl : xs.length ≤ 137438953470)
    (k : ∀ b h', GrowR layI 1 h' b (putZ n xs) → h'.ok → h.le h' → own h b → run (K b h')) : callW (A O) N_stoaref24_put [a, .int .i64 n] h K := by
  refine callW_enter a_stoaref24_put ?_
  simp (disch := omega) [F_stoaref24_put]
  refine loop_rule (I := fun m e k => ∃ (i : Nat) (b : V) (d : Bool) (l : List Int), m = xs.length - i ∧ i ≤ xs.length ∧ l.length = i + d.toNat ∧ putZ n xs = l ++ (if d then xs.drop i else putZ n (xs.drop i)) ∧ GrowR layI 1 k b l ∧ k.ok ∧ h.le k ∧ own h b ∧ e 0 = a ∧ e 1 = .int .i64 n ∧ e 5 = b ∧ e 6 = .bool d ∧ e 7 = .int .i64 i) ?_ xs.length _ _
    ⟨0, .slc h.nx 0 0 0 0 1, false, [], by simp, by simp, by simp, by simp, GrowR.empty layI 1 h, ok.new _, Hp.le_new _ _, .inr (by simp), by simp⟩
  rintro m e k' ⟨i, b, d, l, rfl, hi, hll, hput, hg, ok', hle, hown, h0, h1, h5, h6, h7⟩ N R X hN hR hX
  have ha' := ha.mono (hle.rle ok)
  have hlen := putZ_length n xs
  simp (disch := omega) [h0, h1, h5, h6, h7, ha'.lenV]
  refine iffW_dec (fun hlt => ?_) (fun hge => ?_)
  · have hx := ha'.get (List.getElem?_eq_getElem hlt)
    have hdrop : xs.drop i = xs[i] :: xs.drop (i + 1) := List.drop_eq_getElem_cons hlt
    cases d with
    | true =>
      have hl2 : l.length = i + 1 := hll
      simp (disch := omega) [h0, h1, h5, h6, h7, ha'.idx, hx]
      refine app1_rule monoI (x := xs[i]) ok' hg (by rfl) rfl rfl (by omega) (by omega) (by omega) ?_
      intro b' h' hg' happ
      simp (disch := omega) [h7, i64_in]
      refine hN _ _ _ (by omega) ⟨i + 1, b', true, _, rfl, by omega, by simp; omega, ?_, hg', happ.ok, happ.le hle hown, happ.own hle hown, by simp [h0], by simp [h1], by simp, by simp [h6], by simp⟩
      rw [hput, hdrop]; simp
    | false =>
      have hl2 : l.length = i := hll
      simp (disch := omega) [h0, h1, h5, h6, h7, ha'.idx, hx]
      rw [hdrop] at hput
      refine iffW_dec (fun hc => ?_) (fun hc => ?_)
      · simp (disch := omega) [h0, h1, h5, h6, h7]
        refine app1_rule monoI (x := n) ok' hg (by rfl) rfl rfl (by omega) (by omega) (by omega) ?_
        intro b1 h1' hg1 happ1
        have le1 := happ1.le hle hown
        have ow1 := happ1.own hle hown
        have ha1 := ha.mono (le1.rle ok)
        have hx1 := ha1.get (List.getElem?_eq_getElem hlt)
        simp (disch := omega) [h0, h1, h5, h6, h7, ha1.idx, hx1]
        refine app1_rule monoI (x := xs[i]) happ1.ok hg1 (by rfl) rfl rfl (by omega) (by omega) (by simp; omega) ?_
        intro b' h' hg' happ
        simp (disch := omega) [h7, i64_in]
        refine hN _ _ _ (by omega) ⟨i + 1, b', true, _, rfl, by omega, ?_, ?_, hg', happ.ok, happ.le le1 ow1, happ.own le1 ow1, by simp [h0], by simp [h1], by simp, by simp, by simp⟩
        · simp; omega
        · rw [hput]; simp [putZ, hc]
      · simp (disch := omega) [h0, h1, h5, h6, h7, ha'.idx, hx]
        refine app1_rule monoI (x := xs[i]) ok' hg (by rfl) rfl rfl (by omega) (by omega) (by omega) ?_
        intro b' h' hg' happ
        simp (disch := omega) [h7, i64_in]
        refine hN _ _ _ (by omega) ⟨i + 1, b', false, _, rfl, by omega, ?_, ?_, hg', happ.ok, happ.le hle hown, happ.own hle hown, by simp [h0], by simp [h1], by simp, by simp [h6], by simp⟩
        · simp; omega
        · rw [hput]; simp [putZ, hc]
  · simp
    refine hX _ _ _ ?_
    have hd : xs.drop i = [] := List.drop_eq_nil_of_le (by omega)
    rw [hd] at hput
    have : d.toNat ≤ 1 := by cases d <;> simp
    cases d with
    | true =>
      simp [h5, h6]
      simp at hput
      rw [← hput] at hg
      exact k _ _ hg ok' hle hown
    | false =>
      simp [h5, h6, h1]
      simp [putZ] at hput
      refine app1_rule monoI (x := n) ok' hg (by rfl) rfl rfl (by omega) (by omega) (by omega) ?_
      intro b' h' hg' happ
      rw [← hput] at hg'
      simp
      exact k _ _ hg' happ.ok (happ.le hle hown) (happ.own hle hown)
end Go.Ab.Fs
