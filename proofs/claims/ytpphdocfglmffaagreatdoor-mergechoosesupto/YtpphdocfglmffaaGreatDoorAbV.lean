/- The abstract machine's code: what holds of every ending (no count of steps; every ending is reached). -/
import Derived.Test.YtpphdocfglmffaaGreatDoorAbU
set_option linter.unusedVariables false
set_option linter.unusedSimpArgs false
namespace Go.Ab

theorem putE_none (e : Env) (v : V) : e.put none v = e := rfl
theorem putE_some (e : Env) (t : Nat) (v : V) (u : Nat) : e.put (some t) v u = if u = t then v else e u := rfl
theorem putE_ne {e : Env} {o : AOp} {v : V} {t : Nat} (h : t ∉ o.dsts) : e.put o.dst v t = e t := by
  unfold AOp.dsts at h
  cases ho : o.dst with
  | none => rfl
  | some d => rw [ho] at h; simp only [List.mem_singleton] at h; rw [putE_some, if_neg h]
theorem putE_eq {e : Env} {o : AOp} {v : V} {t : Nat} (h : t ∈ o.dsts) : e.put o.dst v t = v := by
  unfold AOp.dsts at h
  cases ho : o.dst with
  | none => rw [ho] at h; simp at h
  | some d => rw [ho] at h; simp only [List.mem_singleton] at h; rw [putE_some, if_pos h]

inductive Rs where
  | ex (x : Ex) (e : Env)
  | env (e : Env)
  | val (v : V)

inductive Wk where
  | code (c : ACode) (e : Env)
  | ops (l : List AOp) (e : Env)
  | op (o : A1) (e : Env)
  | draw (l : List (AOp × List AOp)) (e : Env)
  | call (f : Nat) (args : List V)

/-- what was read is read as before -/
def Still (r : AOp) (e : Env) (H : Obs) : Prop :=
  wanted e r.guard = true → ∀ q, r.op = .r q → ∃ v, q.ev e H = some v ∧ ∀ d ∈ r.dsts, e d = v

/-- the temporaries that a call begins with -/
def argE (args : List V) : Env := fun t => args.getD t und

/-- a block's ending -/
def outOf (id : Nat) (Q : Rs → Hp → Prop) : Rs → Hp → Prop
  | .ex (.exit i) e, h => if i = id then Q (.ex .nrm e) h else Q (.ex (.exit i) e) h
  | r, h => Q r h

def asNrm (Q : Rs → Hp → Prop) : Rs → Hp → Prop
  | .env e, h => Q (.ex .nrm e) h
  | _, _ => False

/-- the functions; and what is known, from elsewhere, of calls of some of them -/
abbrev Orc := Nat → List V → Hp → (V → Hp → Prop) → Prop
structure Tb where
  fn : Nat → Option AFn
  orc : Orc
def Orc.none : Orc := fun _ _ _ _ => False

/-- every run ends, and each ending is in Q -/
inductive WP (A : Tb) : Wk → Hp → (Rs → Hp → Prop) → Prop
  | skip {e h} {Q : Rs → Hp → Prop} : Q (.ex .nrm e) h → WP A (.code .skip e) h Q
  | ret {e h} {Q : Rs → Hp → Prop} : Q (.ex .ret e) h → WP A (.code .ret e) h Q
  | exit {e h i} {Q : Rs → Hp → Prop} : Q (.ex (.exit i) e) h → WP A (.code (.exit i) e) h Q
  | seq {a b e h} {R Q : Rs → Hp → Prop} : WP A (.code a e) h R → (∀ e' h', R (.ex .nrm e') h' → WP A (.code b e') h' Q) → (∀ x e' h', x ≠ .nrm → R (.ex x e') h' → Q (.ex x e') h') → WP A (.code (.seq a b) e) h Q
  | cond {c x y e h b} {Q : Rs → Hp → Prop} : c.val e = .bool b → WP A (.code (if b then x else y) e) h Q → WP A (.code (.cond c x y) e) h Q
  | block {i c e h} {R Q : Rs → Hp → Prop} : WP A (.code c e) h R → (∀ x e' h', R (.ex x e') h' → outOf i Q (.ex x e') h') → WP A (.code (.block i c) e) h Q
  | loop {c e h} {R Q : Rs → Hp → Prop} : WP A (.code c e) h R → (∀ e' h', R (.ex .nrm e') h' → WP A (.code (.loop c) e') h' Q) → (∀ x e' h', x ≠ .nrm → R (.ex x e') h' → Q (.ex x e') h') → WP A (.code (.loop c) e) h Q
  | reg {l e h} {R Q : Rs → Hp → Prop} : WP A (.ops l e) h R → (∀ e' h', R (.env e') h' → Q (.ex .nrm e') h') → WP A (.code (.reg l) e) h Q
  | dreg {l e h} {R Q : Rs → Hp → Prop} : WP A (.draw l e) h R → (∀ e' h', R (.env e') h' → Q (.ex .nrm e') h') → WP A (.code (.dreg l) e) h Q
  | nil {e h} {Q : Rs → Hp → Prop} : Q (.env e) h → WP A (.ops [] e) h Q
  | cons {o l e h} {R Q : Rs → Hp → Prop} : wanted e o.guard = true → WP A (.op o.op e) h R → (∀ v h', R (.val v) h' → WP A (.ops l (e.put o.dst v)) h' Q) → WP A (.ops (o :: l) e) h Q
  | drop {o l e h} {Q : Rs → Hp → Prop} : wanted e o.guard = false → WP A (.ops l (e.put o.dst und)) h Q → WP A (.ops (o :: l) e) h Q
  | dnil {e h} {Q : Rs → Hp → Prop} : Q (.env e) h → WP A (.draw [] e) h Q
  | dcons {o chk l e h} {R Q : Rs → Hp → Prop} : wanted e o.guard = true → WP A (.op o.op e) h R → (∀ v h', R (.val v) h' → ∀ r ∈ chk, Still r (e.put o.dst v) h'.obj) → (∀ v h', R (.val v) h' → WP A (.draw l (e.put o.dst v)) h' Q) → WP A (.draw ((o, chk) :: l) e) h Q
  | ddrop {o chk l e h} {Q : Rs → Hp → Prop} : wanted e o.guard = false → WP A (.draw l (e.put o.dst und)) h Q → WP A (.draw ((o, chk) :: l) e) h Q
  | p {q e h v} {Q : Rs → Hp → Prop} : P1.ev e q = some v → Q (.val v) h → WP A (.op (.p q) e) h Q
  | r {q e v} {h : Hp} {Q : Rs → Hp → Prop} : R1.ev e h.obj q = some v → Q (.val v) h → WP A (.op (.r q) e) h Q
  | n {q e r} {h : Hp} {Q : Rs → Hp → Prop} : N1.ev e q = some r → Q (.val (r.2 h.nx)) (h.new r.1) → WP A (.op (.n q) e) h Q
  | e {q e h} {Q : Rs → Hp → Prop} : (E1.ev e q).wp h (fun v k => Q (.val v) k) → WP A (.op (.e q) e) h Q
  | call {f l e h} {Q : Rs → Hp → Prop} : WP A (.call f (l.map (Opd.val e))) h Q → WP A (.op (.call f l) e) h Q
  | callv {x l e h f a b} {Q : Rs → Hp → Prop} : x.val e = .fn (.func f) a b → WP A (.call f (a ++ l.map (Opd.val e) ++ b)) h Q → WP A (.op (.callv x l) e) h Q
  | orc {f args fn h} {R : V → Hp → Prop} {Q : Rs → Hp → Prop} : A.fn f = some fn → A.orc f args h R → (∀ v h', R v h' → Q (.val v) h') → WP A (.call f args) h Q
  | enter {f args fn h} {R Q : Rs → Hp → Prop} : A.fn f = some fn → WP A (.code fn.code (argE args)) h R →
      (∀ x e' h', R (.ex x e') h' → (∀ i, x ≠ .exit i) ∧ ∃ v, resVs e' h'.obj fn.res = some v ∧ Q (.val v) h') → WP A (.call f args) h Q

theorem WP.inv_p {A : Tb} {q : P1} {e : Env} {h : Hp} {R : Rs → Hp → Prop} (k : WP A (.op (.p q) e) h R) : ∃ v, q.ev e = some v ∧ R (.val v) h := by
  cases k with
  | p a b => exact ⟨_, a, b⟩

theorem WP.inv_r {A : Tb} {q : R1} {e : Env} {h : Hp} {R : Rs → Hp → Prop} (k : WP A (.op (.r q) e) h R) : ∃ v, q.ev e h.obj = some v ∧ R (.val v) h := by
  cases k with
  | r a b => exact ⟨_, a, b⟩

theorem WP.inv_n {A : Tb} {q : N1} {e : Env} {h : Hp} {R : Rs → Hp → Prop} (k : WP A (.op (.n q) e) h R) : ∃ r, q.ev e = some r ∧ R (.val (r.2 h.nx)) (h.new r.1) := by
  cases k with
  | n a b => exact ⟨_, a, b⟩

theorem WP.inv_call {A : Tb} {f : Nat} {args : List V} {h : Hp} {R : Rs → Hp → Prop} (k : WP A (.call f args) h R) : ∃ fn, A.fn f = some fn := by
  cases k with
  | enter a _ _ => exact ⟨_, a⟩
  | orc a _ _ => exact ⟨_, a⟩

end Go.Ab
