/- Maps: written, deleted from, ranged over. -/
import Derived.Test.YtpphdocfglmffaaGreatDoorAbQ
set_option linter.unusedVariables false
set_option linter.unusedSimpArgs false
namespace Go.Ab
open Go.RowKit (Below)

section
variable {P : Program} {ι : Inj} {w : World} {h : Hp} {e : Env} {ρ : Operand → Value}

def putObj (w : World) (c : Nat) (o : Obj) : World := { w with heap := w.heap.setIfInBounds c o }

theorem putObj_get {c : Nat} {o : Obj} (hc : c < w.heap.size) (k : Nat) : (putObj w c o).heap[k]? = if k = c then some o else w.heap[k]? := by
  simp only [putObj, Array.getElem?_setIfInBounds]
  by_cases hk : c = k
  · subst hk; simp [hc]
  · rw [if_neg hk, if_neg (fun h => hk h.symm)]

theorem run_setObj {c : Nat} {o o' : Obj} (ho : w.heap[c]? = some o') (hn : ∀ x t f, o' ≠ .cells x t f) : (setObj c o).run P w = .ok () (putObj w c o) := by
  unfold setObj
  cases o' <;> first | exact absurd rfl (hn _ _ _) | simp [Sem.run, ho, putObj]

theorem setOb_rel (hR : Rel ι h w) {i c : Nat} {o : Ob} {co : Obj} (hi : ι.ob i = some c) (hor : ObR ι (putObj w c co) c o) : Rel ι (h.set i o) (putObj w c co) ∧ Ext ι h w ι (h.set i o) (putObj w c co) := by
  obtain ⟨hi1, hcb, o0, ho0, hor0⟩ := hR.ob i c hi
  have hsize : (putObj w c co).heap.size = w.heap.size := by simp [putObj]
  have hne : ∀ s g L, ι.st s g = some L → L.cb ≠ c := fun s g L hL => hR.kind s g L i c hL hi
  have hsi : ∀ cells old dirty esz, h.obj i ≠ some (.sto cells old dirty esz) := by
    intro cells old dirty esz hh
    rw [ho0] at hh; simp at hh; subst hh
    exact hor0.elim
  have hso : ∀ cells old dirty esz, o ≠ .sto cells old dirty esz := by
    rintro cells old dirty esz rfl
    exact hor.elim
  constructor
  · constructor
    · intro s g L hL
      obtain ⟨a, b, cc⟩ := hR.st s g L hL
      refine ⟨a, by rw [hsize]; exact b, ?_⟩
      intro cells old dirty esz ho
      simp only [Hp.set] at ho
      split at ho
      · simp at ho; exact absurd ho (hso _ _ _ _)
      · exact (cc _ _ _ _ ho).congr (by rw [putObj_get hcb, if_neg (hne _ _ _ hL)])
    · exact hR.sep
    · intro j d hj
      by_cases hij : j = i
      · subst hij
        rw [hi] at hj; simp at hj; subst hj
        exact ⟨hi1, by rw [hsize]; exact hcb, o, by simp [Hp.set], hor⟩
      · obtain ⟨a, b, o', ho', hor'⟩ := hR.ob j d hj
        have hdc : d ≠ c := by rintro rfl; exact hij (hR.obsep _ _ _ hj hi)
        exact ⟨a, by rw [hsize]; exact b, o', by simp [Hp.set, hij, ho'], hor'.congr (by rw [putObj_get hcb, if_neg hdc])⟩
    · exact hR.obsep
    · exact hR.kind
    · intro j o' ho'
      simp only [Hp.set] at ho' ⊢
      split at ho'
      · rename_i hh; rw [hh]; exact hi1
      · exact hR.obj j o' ho'
  · refine ⟨Inj.le.refl _, rfl, rfl, rfl, Nat.le_refl _, by rw [hsize]; exact Nat.le_refl _, Nat.le_refl _, ?_, ?_, fun _ _ _ a b => by simp [a] at b, fun _ _ a b => by simp [a] at b⟩
    · intro b hb hro
      have hbc : b ≠ c := fun hh => hro.2 i c hi hh.symm
      refine ⟨⟨?_, hro.2⟩, by rw [putObj_get hcb, if_neg hbc]⟩
      intro s g L hL hcbk cells old dirty esz ho
      simp only [Hp.set] at ho
      split at ho
      · simp at ho; exact absurd ho (hso _ _ _ _)
      · exact hro.1 _ _ _ hL hcbk _ _ _ _ ho
    · intro j hj a b
      have : j ≠ i := by rintro rfl; rw [hi] at b; simp at b
      exact ⟨a, b, by simp [Hp.set, this]⟩

theorem EntsR.append {xs : List MEnt} {ys : List MapEntry} {zs : List MEnt} {us : List MapEntry} (h1 : EntsR ι xs ys) (h2 : EntsR ι zs us) : EntsR ι (xs ++ zs) (ys ++ us) := by
  induction xs generalizing ys with
  | nil => simp [EntsR] at h1; subst h1; simpa using h2
  | cons x xs ih => obtain ⟨y, r, rfl, hy, hr⟩ := h1; exact ⟨y, r ++ us, rfl, hy, ih hr⟩

theorem EntsR.modify {f : MEnt → MEnt} {g : MapEntry → MapEntry} (hfg : ∀ x y, EntR ι x y → EntR ι (f x) (g y)) : ∀ {xs : List MEnt} {ys : List MapEntry} (_ : EntsR ι xs ys) (i : Nat), EntsR ι (xs.modify i f) (ys.modify i g)
  | [], ys, h, i => by simp [EntsR] at h; subst h; simp [EntsR]
  | x :: xs, _, ⟨y, r, rfl, hy, hr⟩, 0 => by simpa using ⟨g y, r, rfl, hfg x y hy, hr⟩
  | x :: xs, _, ⟨y, r, rfl, hy, hr⟩, i + 1 => by simpa using ⟨y, _, rfl, hy, EntsR.modify hfg hr i⟩

theorem EntsR.erase : ∀ {xs : List MEnt} {ys : List MapEntry} (_ : EntsR ι xs ys) (i : Nat), EntsR ι (xs.eraseIdx i) (ys.eraseIdx i)
  | [], ys, h, i => by simp [EntsR] at h; subst h; simp [EntsR]
  | x :: xs, _, ⟨y, r, rfl, hy, hr⟩, 0 => by simpa using hr
  | x :: xs, _, ⟨y, r, rfl, hy, hr⟩, i + 1 => by simpa using ⟨y, _, rfl, hy, EntsR.erase hr i⟩

theorem keyEq_sameBits {q : LK} {t : TypeId} {x y : V} {a b : Value} (ht : leafKind P t = some q) (hx : VR ι x a) (hy : VR ι y b) (hk : keyEq q x y = some true) (n : Nat) : Instr.sameBits n b a = true := by
  unfold keyEq at hk
  split at hk
  · simp at hk; subst hk
    simp only [VR] at hx hy; subst hx; subst hy; cases n <;> simp [Instr.sameBits]
  · split at hk
    · rename_i hkk
      simp at hk; subst hk; subst hkk
      simp only [VR] at hx hy; subst hx; subst hy; cases n <;> simp [Instr.sameBits]
    · simp at hk
  · simp at hk; subst hk
    obtain ⟨c, rfl, hc⟩ := hx
    obtain ⟨d, rfl, hd⟩ := hy
    have : d = c := by
      apply ByteArray.ext; apply Array.ext'; rw [hd, hc]
    subst this
    cases n <;> simp [Instr.sameBits, beq_toListBytes]
  · simp at hk

theorem findEnt_get {q : LK} {k : V} : ∀ {xs : List MEnt} {j i : Nat} {v : V}, findEnt q k xs j = some (some (i, v)) → ∃ x, j ≤ i ∧ xs[i - j]? = some x ∧ keyEq q k x.key = some true
  | [], j, i, v, hh => by simp [findEnt] at hh
  | x :: xs, j, i, v, hh => by
    simp only [findEnt] at hh
    split at hh
    · rename_i hk
      simp at hh; obtain ⟨rfl, _⟩ := hh
      exact ⟨x, Nat.le_refl _, by simp, hk⟩
    · obtain ⟨y, h1, h2, h3⟩ := findEnt_get hh
      refine ⟨y, by omega, ?_, h3⟩
      rw [show i - j = (i - (j + 1)) + 1 from by omega]
      simpa using h2
    · simp at hh

/-- a map object of the heap, in the world -/
theorem map_at (hR : Rel ι h w) {r : Nat} {a : Value} {es : List MEnt} {clock : Nat} (hx : VR ι (.map r) a) (ho : h.obj r = some (.map es clock)) : ∃ c ces, ι.ob r = some c ∧ a = .map (some c) ∧ w.heap[c]? = some (.map ces clock) ∧ c < w.heap.size ∧ EntsR ι es ces.toList := by
  obtain ⟨c, hc, rfl⟩ := hx
  obtain ⟨_, hlt, o, ho', hor⟩ := hR.ob _ _ hc
  rw [ho] at ho'; simp at ho'; subst ho'
  obtain ⟨ces, h1, h2⟩ := hor
  exact ⟨c, ces, hc, rfl, h1, hlt, h2⟩

theorem mset_run {t kt et : TypeId} {kk : LK} {m k x : V} {a b c : Value} {Q : V → Hp → Prop} (hR : Rel ι h w) (ht : P.underlying t = some (.map kt et)) (hkk : leafKind P kt = some kk) (ra : VR ι m a) (rb : VR ι k b) (rc : VR ι x c)
    (hv : (match m with
      | .map r => HM.get r fun ob => match ob with
        | Ob.map es clock => match findEnt kk k es 0 with
          | some (some (i, _)) => .set r (.map (es.modify i fun (y : MEnt) => { y with key := k, val := x }) clock) (.ret und)
          | some none => if (keyEq kk k k).isSome then .set r (.map (es ++ [(MEnt.mk k x clock)]) (clock + 1)) (.ret und) else .fail
          | none => .fail
        | _ => .fail
      | _ => HM.fail).wp h Q) :
    ∃ kp u κ, Q und kp ∧ (Instr.mapUpdate t a b c).run P w = .ok () u ∧ Rel κ kp u ∧ Ext ι h w κ kp u := by
  split at hv
  case h_2 => exact hv.elim
  rename_i r
  obtain ⟨ob, hob, hv⟩ := hv
  cases ob with
  | sto => exact hv.elim
  | mit => exact hv.elim
  | map es clock =>
  dsimp only at hv
  obtain ⟨d, ces, hd, rfl, hw, hlt, hes⟩ := map_at hR ra hob
  split at hv
  · rename_i i v0 hf
    obtain ⟨r', h1, h2⟩ := findKey_run (P := P) (w := w) hkk rb hes hf
    obtain ⟨y0, hy1, hy2, hy3⟩ := findEnt_get hf
    simp only [Nat.sub_zero] at hy2
    obtain ⟨z, hz, hyz⟩ := hes.get hy2
    cases r' with
    | none => exact h2.elim
    | some p =>
      obtain ⟨p1, p2⟩ := p
      obtain ⟨hp1, _⟩ := h2
      simp only at hp1; subst hp1
      have hbits := keyEq_sameBits hkk rb hyz.1 hy3 10000
      have hz' : ces[i]? = some z := by simpa using hz
      have hstay : (Instr.keyThatStays (((ces[i]?).map (·.key)).getD b) b).run P w = .ok b w := by
        unfold Instr.keyThatStays
        simp [hz', hbits]
      obtain ⟨hR', hE⟩ := setOb_rel hR hd (o := .map (es.modify i fun (y : MEnt) => { y with key := k, val := x }) clock) (co := .map (ces.modify i fun (e : MapEntry) => { e with key := b, val := c }) clock) ⟨_, by rw [putObj_get hlt, if_pos rfl], by
        rw [Array.toList_modify]
        exact EntsR.modify (f := fun (y : MEnt) => { y with key := k, val := x }) (g := fun (e : MapEntry) => { e with key := b, val := c }) (fun _ _ hxy => ⟨rb, rc, hxy.2.2⟩) hes i⟩
      refine ⟨_, _, ι, hv, ?_, hR', hE⟩
      unfold Instr.mapUpdate
      simp only [Sem.run_bind, run_underlying' ht, Result.andThen_ok, run_getObj hw (by simp), checkKey_leaf hkk, h1, hstay, run_setObj hw (by simp)]
  · rename_i hf
    obtain ⟨r', h1, h2⟩ := findKey_run (P := P) (w := w) hkk rb hes hf
    split at hv
    case isFalse => exact hv.elim
    cases r' with
    | some p => exact h2.elim
    | none =>
      obtain ⟨hR', hE⟩ := setOb_rel hR hd (o := .map (es ++ [{ key := k, val := x, born := clock }]) (clock + 1)) (co := .map (ces.push { key := b, val := c, born := clock }) (clock + 1)) ⟨_, by rw [putObj_get hlt, if_pos rfl], by
        rw [Array.toList_push]
        exact hes.append ⟨_, [], rfl, ⟨rb, rc, rfl⟩, rfl⟩⟩
      refine ⟨_, _, ι, hv, ?_, hR', hE⟩
      unfold Instr.mapUpdate
      simp only [Sem.run_bind, run_underlying' ht, Result.andThen_ok, run_getObj hw (by simp), checkKey_leaf hkk, h1, run_setObj hw (by simp)]
  · exact hv.elim

theorem e_mset {o : Oper} {t : TypeId} {m k x : Operand} {q : E1} {Q : V → Hp → Prop} (hR : Rel ι h w) (hρ : ∀ a b, cOpd a = some b → VR ι (b.val e) (ρ a)) (ho : o.op = .mapUpdate t m k x ∨ o.op = .insert t m k x) (hc : cOp P o.op = some (.e q)) (hv : (q.ev e).wp h Q) : GoesQ P ι h w (execOp ρ o) Q := by
  have hc' : cOp P (.mapUpdate t m k x) = some (.e q) := by
    rcases ho with ho | ho
    · rw [ho] at hc; exact hc
    · rw [ho] at hc; exact hc
  simp only [cOp, Option.bind_eq_some_iff] at hc'
  obtain ⟨m', hm, k', hk, x', hx, d, hd, hc'⟩ := hc'
  cases d with
  | map kt et =>
    simp only [Option.map_eq_some_iff] at hc'
    obtain ⟨kk, hkk, hc'⟩ := hc'
    simp only [A1.e.injEq] at hc'; subst hc'
    obtain ⟨kp, u, κ, h1, h2, h3, h4⟩ := mset_run (P := P) hR hd hkk (hρ m m' hm) (hρ k k' hk) (hρ x x' hx) hv
    refine ⟨und, kp, h1, goesU (s := Instr.mapUpdate t (ρ m) (ρ k) (ρ x)) ?_ ⟨u, κ, h2, h3, h4⟩⟩
    rcases ho with ho | ho <;> (unfold execOp; rw [ho])
  | _ => simp at hc'

theorem e_mdel {o : Oper} {args : Array Operand} {ts : Array TypeId} {q : E1} {Q : V → Hp → Prop} (hR : Rel ι h w) (hρ : ∀ a b, cOpd a = some b → VR ι (b.val e) (ρ a)) (ho : o.op = .call { callee := .builtin .delete, args, argTypes := ts }) (hc : cDelete P args.toList ts = some (.e q)) (hv : (q.ev e).wp h Q) : GoesQ P ι h w (execOp ρ o) Q := by
  unfold cDelete at hc
  split at hc
  case h_2 => simp at hc
  rename_i m k hargs
  have := two_args hargs; subst this
  simp only [Option.bind_eq_some_iff] at hc
  obtain ⟨m', hm, k', hk, t, ht0, d, hd, hc⟩ := hc
  split at hc
  case h_2 => simp at hc
  rename_i kt et
  simp only [Option.map_eq_some_iff] at hc
  obtain ⟨kk, hkk, hc⟩ := hc
  simp only [A1.e.injEq] at hc; subst hc
  obtain ⟨ks, hks⟩ := call_b (P := P) (w := w) (ρ := ρ) ho
  have rm := hρ m m' hm
  have rk := hρ k k' hk
  have go : ∀ v kp, Q v kp → (∃ c u κ, (Builtin.delete_ ts o.type #[ρ m, ρ k]).run P w = .ok c u ∧ VR κ v c ∧ Rel κ kp u ∧ Ext ι h w κ kp u) → GoesQ P ι h w (execOp ρ o) Q := by
    rintro v kp hq ⟨c, u, κ, h1, h2, h3, h4⟩
    exact ⟨v, kp, hq, .value c, c, u, κ, by rw [hks]; simp [builtin, h1], .inl rfl, h2, h3, h4⟩
  simp only [E1.ev] at hv
  split at hv
  · rename_i hm'
    rw [hm'] at rm
    simp only [VR] at rm
    refine go _ _ hv ⟨.tuple #[], w, ι, ?_, und_rel, hR, Ext.refl _ _ _⟩
    unfold Builtin.delete_
    simp [ht0, run_underlying' hd, rm, checkKey_leaf hkk]
  · rename_i r hm'
    rw [hm'] at rm
    obtain ⟨ob, hob, hv⟩ := hv
    cases ob with
    | sto => exact hv.elim
    | mit => exact hv.elim
    | map es clock =>
    dsimp only at hv
    obtain ⟨d, ces, hd', ra, hw, hlt, hes⟩ := map_at hR rm hob
    split at hv
    · rename_i i v0 hf
      obtain ⟨r', h1, h2⟩ := findKey_run (P := P) (w := w) hkk rk hes hf
      cases r' with
      | none => exact h2.elim
      | some p =>
        obtain ⟨p1, p2⟩ := p
        obtain ⟨hp1, _⟩ := h2
        simp only at hp1; subst hp1
        obtain ⟨hR', hE⟩ := setOb_rel hR hd' (o := .map (es.eraseIdx i) clock) (co := .map (ces.eraseIdxIfInBounds i) clock) ⟨_, by rw [putObj_get hlt, if_pos rfl], by
          rw [Array.toList_eraseIdxIfInBounds]
          exact hes.erase i⟩
        refine go _ _ hv ⟨.tuple #[], _, ι, ?_, und_rel, hR', hE⟩
        unfold Builtin.delete_
        simp [ht0, run_underlying' hd, ra, run_getObj hw, checkKey_leaf hkk, h1, run_setObj hw]
    · rename_i hf
      obtain ⟨r', h1, h2⟩ := findKey_run (P := P) (w := w) hkk rk hes hf
      cases r' with
      | some p => exact h2.elim
      | none =>
        have hself : putObj w d (.map ces clock) = w := by
          unfold putObj
          have : w.heap.setIfInBounds d (.map ces clock) = w.heap := by
            apply Array.ext_getElem?
            intro j
            rw [Array.getElem?_setIfInBounds]
            split
            · rename_i hj; subst hj; rw [hw]
            · rfl
          rw [this]
        refine go _ _ hv ⟨.tuple #[], w, ι, ?_, und_rel, hR, Ext.refl _ _ _⟩
        unfold Builtin.delete_
        simp [ht0, run_underlying' hd, ra, run_getObj hw, checkKey_leaf hkk, h1, run_setObj hw, hself]
    · exact hv.elim
  · exact hv.elim

end
end Go.Ab
