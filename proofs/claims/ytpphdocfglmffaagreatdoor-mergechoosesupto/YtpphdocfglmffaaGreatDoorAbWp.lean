/- Symbolic execution of the abstract machine's code: what holds of a run, by computing; loops and calls stand still till they are told. -/
import Derived.Test.YtpphdocfglmffaaGreatDoorAbTab
set_option linter.unusedVariables false
set_option linter.unusedSimpArgs false
namespace Go.Ab

/-- a proof that is not taken for a computation -/
theorem nr.{u} {α : Sort u} {a b : α} (h : a = b) : a = b := h

theorem HM.wp_mono {Q Q' : V → Hp → Prop} (hq : ∀ v h, Q v h → Q' v h) : ∀ {m : HM} {h : Hp}, m.wp h Q → m.wp h Q'
  | .ret _, _, k => hq _ _ k
  | .fail, _, k => k.elim
  | .get i f, h, k => by
    obtain ⟨o, ho, k⟩ := k
    exact ⟨o, ho, HM.wp_mono hq k⟩
  | .set i o k', h, k => HM.wp_mono (m := k') (h := h.set i o) hq k
  | .new o k', h, k => HM.wp_mono (m := k' h.nx) (h := h.new o) hq k
  | .pick n k', h, k => ⟨k.1, fun c hc => HM.wp_mono hq (k.2 c hc)⟩

section
variable {A : Tb}

theorem WP.mono {k : Wk} {h : Hp} {Q Q' : Rs → Hp → Prop} (H : WP A k h Q) (hq : ∀ r h', Q r h' → Q' r h') : WP A k h Q' := by
  induction H generalizing Q' with
  | skip a => exact .skip (hq _ _ a)
  | ret a => exact .ret (hq _ _ a)
  | exit a => exact .exit (hq _ _ a)
  | seq a b c ih1 ih2 => exact .seq a (fun e' h' r => ih2 e' h' r hq) (fun x e' h' hx r => hq _ _ (c x e' h' hx r))
  | cond a b ih => exact .cond a (ih hq)
  | @block i c e h R Q a b ih =>
    refine .block a fun x e' h' r => ?_
    have := b x e' h' r
    cases x with
    | exit j => simp only [outOf] at this ⊢; split <;> rename_i hj <;> simp only [hj, if_true, if_false] at this <;> exact hq _ _ this
    | nrm => exact hq _ _ this
    | ret => exact hq _ _ this
  | loop a b c ih1 ih2 => exact .loop a (fun e' h' r => ih2 e' h' r hq) (fun x e' h' hx r => hq _ _ (c x e' h' hx r))
  | reg a b ih => exact .reg a fun e' h' r => hq _ _ (b e' h' r)
  | dreg a b ih => exact .dreg a fun e' h' r => hq _ _ (b e' h' r)
  | nil a => exact .nil (hq _ _ a)
  | cons g a b ih1 ih2 => exact .cons g a fun v h' r => ih2 v h' r hq
  | drop g a ih => exact .drop g (ih hq)
  | dnil a => exact .dnil (hq _ _ a)
  | dcons g a b c ih1 ih2 => exact .dcons g a b fun v h' r => ih2 v h' r hq
  | ddrop g a ih => exact .ddrop g (ih hq)
  | p a b => exact .p a (hq _ _ b)
  | r a b => exact .r a (hq _ _ b)
  | n a b => exact .n a (hq _ _ b)
  | e a => exact .e (HM.wp_mono (fun v h => hq _ _) a)
  | call a ih => exact .call (ih hq)
  | callv a b ih => exact .callv a (ih hq)
  | orc a b c => exact .orc a b fun v h' r => hq _ _ (c v h' r)
  | enter a b c ih =>
    refine .enter a b fun x e' h' r => ?_
    obtain ⟨d, v, hv, q⟩ := c x e' h' r
    exact ⟨d, v, hv, hq _ _ q⟩

/-- it is there, and K holds of it -/
def gets {α : Type} (o : Option α) (K : α → Prop) : Prop := match o with | some v => K v | none => False
theorem gets_some {α : Type} (v : α) (K : α → Prop) : gets (some v) K = K v := rfl
theorem gets_none {α : Type} (K : α → Prop) : gets none K = False := rfl
theorem gets_iff {α : Type} {o : Option α} {K : α → Prop} : gets o K ↔ ∃ v, o = some v ∧ K v := by
  cases o <;> simp [gets]

def iffW (v : V) (X Y : Prop) : Prop := match v with | .bool true => X | .bool false => Y | _ => False
/-- the mark of where the run stands: only what stands under it is computed on -/
def run (X : Prop) : Prop := X
theorem iffW_dec {p : Prop} [Decidable p] {X Y : Prop} (h1 : p → run X) (h2 : ¬ p → run Y) : run (iffW (.bool (decide p)) X Y) := by
  by_cases h : p
  · rw [decide_eq_true h]; exact h1 h
  · rw [decide_eq_false h]; exact h2 h
theorem iffW_bool {b : Bool} {X Y : Prop} (h1 : b = true → run X) (h2 : b = false → run Y) : run (iffW (.bool b) X Y) := by
  cases b
  · exact h2 rfl
  · exact h1 rfl
theorem iffW_ndec {p : Prop} [Decidable p] {X Y : Prop} (h1 : ¬ p → run X) (h2 : p → run Y) : run (iffW (.bool (!decide p)) X Y) := by
  by_cases h : p
  · rw [decide_eq_true h]; exact h2 h
  · rw [decide_eq_false h]; exact h1 h

abbrev EK := Env → Hp → Prop

/-- a call -/
def callW (A : Tb) (f : Nat) (args : List V) (h : Hp) (K : V → Hp → Prop) : Prop := WP A (.call f args) h fun r k => ∃ v, r = .val v ∧ K v k

theorem callW.mono {f : Nat} {args : List V} {h : Hp} {K K' : V → Hp → Prop} (k : callW A f args h K) (hk : ∀ v h', K v h' → K' v h') : callW A f args h K' :=
  WP.mono k fun r h' ⟨v, e, q⟩ => ⟨v, e, hk _ _ q⟩

def callvW (A : Tb) (x : V) (args : List V) (h : Hp) (K : V → Hp → Prop) : Prop := match x with
  | .fn (.func f) a b => callW A f (a ++ args ++ b) h K
  | _ => False

/-- an operation that writes -/
def hmW (m : HM) (h : Hp) (K : V → Hp → Prop) : Prop := m.wp h K
theorem hmW_ret {v : V} {h : Hp} {K : V → Hp → Prop} : hmW (.ret v) h K = K v h := rfl
theorem hmW_fail {h : Hp} {K : V → Hp → Prop} : hmW .fail h K = False := rfl
theorem hmW_set {i : Nat} {o : Ob} {k : HM} {h : Hp} {K : V → Hp → Prop} : hmW (.set i o k) h K = hmW k (h.set i o) K := rfl
theorem hmW_new {o : Ob} {k : Nat → HM} {h : Hp} {K : V → Hp → Prop} : hmW (.new o k) h K = hmW (k h.nx) (h.new o) K := rfl
theorem hmW_get {i : Nat} {k : Ob → HM} {h : Hp} {K : V → Hp → Prop} : hmW (.get i k) h K = gets (h.obj i) fun o => hmW (k o) h K := by
  unfold hmW gets
  simp only [HM.wp]
  cases h.obj i <;> simp

def opW (A : Tb) (o : A1) (e : Env) (h : Hp) (K : V → Hp → Prop) : Prop := match o with
  | .p q => gets (q.ev e) fun v => K v h
  | .r q => gets (q.ev e h.obj) fun v => K v h
  | .n q => gets (q.ev e) fun r => K (r.2 h.nx) (h.new r.1)
  | .e q => hmW (q.ev e) h K
  | .call f l => callW A f (l.map (Opd.val e)) h K
  | .callv x l => callvW A (x.val e) (l.map (Opd.val e)) h K
  | .bad => False

theorem opW_wp {o : A1} {e : Env} {h : Hp} {K : V → Hp → Prop} (k : opW A o e h K) : WP A (.op o e) h fun r h' => ∃ v, r = .val v ∧ K v h' := by
  cases o with
  | p q => obtain ⟨v, hv, k⟩ := gets_iff.1 k; exact .p hv ⟨v, rfl, k⟩
  | r q => obtain ⟨v, hv, k⟩ := gets_iff.1 k; exact .r hv ⟨v, rfl, k⟩
  | n q => obtain ⟨v, hv, k⟩ := gets_iff.1 k; exact .n hv ⟨_, rfl, k⟩
  | e q => exact .e (HM.wp_mono (fun v h k => ⟨v, rfl, k⟩) k)
  | call f l => exact .call k
  | callv x l =>
    simp only [opW, callvW] at k
    split at k
    · rename_i hx; exact .callv hx k
    · exact k.elim
  | bad => exact k.elim

/-- is the guard met? -/
def gdW (v : V) (w : Bool) (X Y : Prop) : Prop := match v with
  | .bool b => if b == w then X else Y
  | _ => Y
/-- is an operation done? -/
def guardW (g : Option (Nat × Bool)) (e : Env) (X Y : Prop) : Prop := match g with
  | none => X
  | some (d, w) => gdW (e d) w X Y

theorem guardW_cases {g : Option (Nat × Bool)} {e : Env} {X Y : Prop} (k : guardW g e X Y) : (wanted e g = true ∧ X) ∨ (wanted e g = false ∧ Y) := by
  match g with
  | none => exact .inl ⟨rfl, k⟩
  | some (d, w) =>
    simp only [guardW, gdW] at k
    simp only [wanted]
    split at k
    · rename_i b h
      rw [h]
      split at k
      · rename_i hb; exact .inl ⟨hb, k⟩
      · rename_i hb; exact .inr ⟨by simpa using hb, k⟩
    · rename_i h
      refine .inr ⟨?_, k⟩
      split
      · rename_i b hb; exact absurd hb (h b)
      · rfl

def opsW (A : Tb) : List AOp → Env → Hp → EK → Prop
  | [], e, h, K => K e h
  | o :: l, e, h, K => guardW o.guard e (opW A o.op e h fun v h' => opsW A l (e.put o.dst v) h' K) (opsW A l (e.put o.dst und) h K)

theorem opsW_wp : ∀ {l : List AOp} {e : Env} {h : Hp} {K : EK}, opsW A l e h K → WP A (.ops l e) h fun r h' => ∃ e', r = .env e' ∧ K e' h'
  | [], _, _, _, k => .nil ⟨_, rfl, k⟩
  | o :: l, e, h, K, k => by
    rcases guardW_cases k with ⟨g, k⟩ | ⟨g, k⟩
    · refine .cons g (opW_wp k) ?_
      rintro v h' ⟨v', hv, k⟩
      simp only [Rs.val.injEq] at hv; subst hv
      exact opsW_wp k
    · exact .drop g (opsW_wp k)

/-- what was read is read as before -/
def stillW : List AOp → Env → Obs → Prop → Prop
  | [], _, _, X => X
  | r :: l, e, H, X => guardW r.guard e ((match r.op, r.dst with | .r q, some d => q.ev e H = some (e d) | .r q, none => ∃ v, q.ev e H = some v | _, _ => True) ∧ stillW l e H X) (stillW l e H X)
/-- it is read as before -/
def stillR (o : Option V) (v : V) (X : Prop) : Prop := o = some v ∧ X
theorem stillW_ok : ∀ {l : List AOp} {e : Env} {H : Obs} {X : Prop}, stillW l e H X → (∀ r ∈ l, Still r e H) ∧ X
  | [], _, _, _, k => ⟨fun r hr => by simp at hr, k⟩
  | r :: l, e, H, X, k => by
    rcases guardW_cases k with ⟨g, k1, k⟩ | ⟨g, k⟩
    · obtain ⟨k2, k3⟩ := stillW_ok k
      refine ⟨fun x hx => ?_, k3⟩
      rcases List.mem_cons.1 hx with rfl | hx
      · intro _ q hq
        rw [hq] at k1
        cases hd : x.dst with
        | none =>
          rw [hd] at k1
          obtain ⟨v, hv⟩ := k1
          exact ⟨v, hv, fun d hd' => by simp [AOp.dsts, hd] at hd'⟩
        | some d =>
          rw [hd] at k1
          exact ⟨_, k1, fun d' hd' => by simp [AOp.dsts, hd] at hd'; rw [hd']⟩
      · exact k2 x hx
    · obtain ⟨k2, k3⟩ := stillW_ok k
      refine ⟨fun x hx => ?_, k3⟩
      rcases List.mem_cons.1 hx with rfl | hx
      · intro hw; rw [g] at hw; simp at hw
      · exact k2 x hx

def drawW (A : Tb) : List (AOp × List AOp) → Env → Hp → EK → Prop
  | [], e, h, K => K e h
  | (o, chk) :: l, e, h, K => guardW o.guard e (opW A o.op e h fun v h' => stillW chk (e.put o.dst v) h'.obj (drawW A l (e.put o.dst v) h' K)) (drawW A l (e.put o.dst und) h K)

theorem drawW_wp : ∀ {l : List (AOp × List AOp)} {e : Env} {h : Hp} {K : EK}, drawW A l e h K → WP A (.draw l e) h fun r h' => ∃ e', r = .env e' ∧ K e' h'
  | [], _, _, _, k => .dnil ⟨_, rfl, k⟩
  | (o, chk) :: l, e, h, K, k => by
    rcases guardW_cases k with ⟨g, k⟩ | ⟨g, k⟩
    · refine .dcons g (opW_wp k) ?_ ?_
      · rintro v h' ⟨v', hv, k⟩
        simp only [Rs.val.injEq] at hv; subst hv
        exact (stillW_ok k).1
      · rintro v h' ⟨v', hv, k⟩
        simp only [Rs.val.injEq] at hv; subst hv
        exact drawW_wp (stillW_ok k).2
    · exact .ddrop g (drawW_wp k)

def post (N R : EK) (X : Nat → EK) : Rs → Hp → Prop
  | .ex .nrm e, h => N e h
  | .ex .ret e, h => R e h
  | .ex (.exit i) e, h => X i e h
  | _, _ => False

def loopW (A : Tb) (c : ACode) (e : Env) (h : Hp) (N R : EK) (X : Nat → EK) : Prop := WP A (.code (.loop c) e) h (post N R X)

def codeW (A : Tb) : ACode → Env → Hp → EK → EK → (Nat → EK) → Prop
  | .skip, e, h, N, _, _ => N e h
  | .reg l, e, h, N, _, _ => opsW A l e h N
  | .dreg l, e, h, N, _, _ => drawW A l e h N
  | .seq a b, e, h, N, R, X => codeW A a e h (fun e h => codeW A b e h N R X) R X
  | .cond c x y, e, h, N, R, X => iffW (c.val e) (codeW A x e h N R X) (codeW A y e h N R X)
  | .block id c, e, h, N, R, X => codeW A c e h N R fun i e h => if i = id then N e h else X i e h
  | .loop c, e, h, N, R, X => loopW A c e h N R X
  | .exit i, e, h, _, _, X => X i e h
  | .ret, e, h, _, R, _ => R e h
  | .rfun .., _, _, _, _, _ => False
  | .bad, _, _, _, _, _ => False

theorem codeW_wp : ∀ {c : ACode} {e : Env} {h : Hp} {N R : EK} {X : Nat → EK}, codeW A c e h N R X → WP A (.code c e) h (post N R X)
  | .skip, _, _, _, _, _, k => .skip k
  | .reg l, _, _, _, _, _, k => .reg (opsW_wp k) (by rintro e' h' ⟨e2, he, k⟩; simp only [Rs.env.injEq] at he; subst he; exact k)
  | .dreg l, _, _, _, _, _, k => .dreg (drawW_wp k) (by rintro e' h' ⟨e2, he, k⟩; simp only [Rs.env.injEq] at he; subst he; exact k)
  | .seq a b, e, h, N, R, X, k => by
    refine .seq (codeW_wp (c := a) k) (fun e' h' r => codeW_wp (c := b) r) ?_
    intro x e' h' hx r
    cases x with
    | nrm => exact absurd rfl hx
    | ret => exact r
    | exit i => exact r
  | .cond c x y, e, h, N, R, X, k => by
    simp only [codeW, iffW] at k
    split at k
    · rename_i hc; exact .cond hc (codeW_wp k)
    · rename_i hc; exact .cond hc (codeW_wp k)
    · exact k.elim
  | .block id c, e, h, N, R, X, k => by
    refine .block (codeW_wp (c := c) k) ?_
    intro x e' h' r
    cases x with
    | nrm => exact r
    | ret => exact r
    | exit i =>
      simp only [outOf]
      split
      · rename_i hi; subst hi; simpa only [post, if_true] using r
      · rename_i hi; simpa only [post, hi, if_false] using r
  | .loop c, _, _, _, _, _, k => k
  | .exit i, _, _, _, _, _, k => .exit k
  | .ret, _, _, _, _, _, k => .ret k
  | .rfun .., _, _, _, _, _, k => k.elim
  | .bad, _, _, _, _, _, k => k.elim

theorem codeW_mono : ∀ {c : ACode} {e : Env} {h : Hp} {N R N' R' : EK} {X X' : Nat → EK}, (∀ e h, N e h → N' e h) → (∀ e h, R e h → R' e h) → (∀ i e h, X i e h → X' i e h) → WP A (.code c e) h (post N R X) → WP A (.code c e) h (post N' R' X') := by
  intro c e h N R N' R' X X' h1 h2 h3 k
  refine WP.mono k ?_
  intro r h' q
  cases r with
  | ex x e => cases x with
    | nrm => exact h1 _ _ q
    | ret => exact h2 _ _ q
    | exit i => exact h3 _ _ _ q
  | env e => exact q
  | val v => exact q

/-- a loop: what holds ahead of each round, and what falls; N, R', X' stand for the endings -/
theorem loop_rule {c : ACode} {N R : EK} {X : Nat → EK} (I : Nat → EK)
    (step : ∀ n e h, I n e h → ∀ (N' R' : EK) (X' : Nat → EK), (∀ m e h, m < n → I m e h → run (N' e h)) → (∀ e h, run (R e h) → run (R' e h)) → (∀ i e h, run (X i e h) → run (X' i e h)) → run (codeW A c e h N' R' X')) :
    ∀ n e h, I n e h → run (loopW A c e h N R X) := by
  intro n
  induction n using Nat.strongRecOn with
  | _ n ih =>
    intro e h hi
    refine .loop (codeW_wp (step n e h hi (fun e h => ∃ m, m < n ∧ I m e h) R X (fun m e h hm hi => ⟨m, hm, hi⟩) (fun _ _ k => k) (fun _ _ _ k => k))) ?_ ?_
    · rintro e' h' ⟨m, hm, hi'⟩
      exact ih m hm e' h' hi'
    · intro x e' h' hx r
      cases x with
      | nrm => exact absurd rfl hx
      | ret => exact r
      | exit i => exact r

/-- what comes back -/
def resW (rs : List ARes) (K : V → Hp → Prop) : EK := fun e h => gets (resVs e h.obj rs) fun v => K v h

/-- a call is entered -/
theorem callW_enter {f : Nat} {args : List V} {h : Hp} {K : V → Hp → Prop} {fn : AFn} (ha : A.fn f = some fn) (k : run (codeW A fn.code (argE args) h (resW fn.res K) (resW fn.res K) fun _ _ _ => False)) : callW A f args h K := by
  refine .enter ha (codeW_wp k) ?_
  intro x e' h' r
  cases x with
  | nrm => obtain ⟨v, hv, k⟩ := gets_iff.1 r; exact ⟨fun i => by simp, v, hv, v, rfl, k⟩
  | ret => obtain ⟨v, hv, k⟩ := gets_iff.1 r; exact ⟨fun i => by simp, v, hv, v, rfl, k⟩
  | exit i => exact r.elim

/-- two ways that meet again -/
theorem iffW_join {v : V} {x y : ACode} {e1 e2 : Env} {h1 h2 : Hp} {N R : EK} {X : Nat → EK} (M : EK) (join : ∀ e h, M e h → run (N e h))
    (br : ∀ N' : EK, (∀ e h, M e h → run (N' e h)) → run (iffW v (codeW A x e1 h1 N' R X) (codeW A y e2 h2 N' R X))) : run (iffW v (codeW A x e1 h1 N R X) (codeW A y e2 h2 N R X)) := br N join

/- HOW A RUN IS COMPUTED -/
section
variable {e : Env} {h : Hp} {N R : EK} {X : Nat → EK} {K : V → Hp → Prop}
@[simp] theorem run_gets_some {α : Type} (v : α) (K : α → Prop) : run (gets (some v) K) = run (K v) := nr rfl
@[simp] theorem run_gets_none {α : Type} (K : α → Prop) : run (gets none K) = False := nr rfl
@[simp] theorem run_iffW_true (X Y : Prop) : run (iffW (.bool true) X Y) = run X := nr rfl
@[simp] theorem run_iffW_false (X Y : Prop) : run (iffW (.bool false) X Y) = run Y := nr rfl
@[simp] theorem run_callvW {f : Nat} {a b args : List V} : run (callvW A (.fn (.func f) a b) args h K) = run (callW A f (a ++ args ++ b) h K) := nr rfl
@[simp] theorem run_hm_ret {v : V} : run (hmW (.ret v) h K) = run (K v h) := nr rfl
@[simp] theorem run_hm_fail : run (hmW .fail h K) = False := nr rfl
@[simp] theorem run_hm_get {i : Nat} {k : Ob → HM} : run (hmW (.get i k) h K) = run (gets (h.obj i) fun o => hmW (k o) h K) := by rw [hmW_get]
@[simp] theorem run_hm_set {i : Nat} {o : Ob} {k : HM} : run (hmW (.set i o k) h K) = run (hmW k (h.set i o) K) := nr rfl
@[simp] theorem run_hm_new {o : Ob} {k : Nat → HM} : run (hmW (.new o k) h K) = run (hmW (k h.nx) (h.new o) K) := nr rfl
@[simp] theorem run_op_p {q : P1} : run (opW A (.p q) e h K) = run (gets (q.ev e) fun v => K v h) := nr rfl
@[simp] theorem run_op_r {q : R1} : run (opW A (.r q) e h K) = run (gets (q.ev e h.obj) fun v => K v h) := nr rfl
@[simp] theorem run_op_n {q : N1} : run (opW A (.n q) e h K) = run (gets (q.ev e) fun r => K (r.2 h.nx) (h.new r.1)) := nr rfl
@[simp] theorem run_op_e {q : E1} : run (opW A (.e q) e h K) = run (hmW (q.ev e) h K) := nr rfl
@[simp] theorem run_op_call {f : Nat} {l : List Opd} : run (opW A (.call f l) e h K) = run (callW A f (l.map (Opd.val e)) h K) := nr rfl
@[simp] theorem run_op_callv {x : Opd} {l : List Opd} : run (opW A (.callv x l) e h K) = run (callvW A (x.val e) (l.map (Opd.val e)) h K) := nr rfl
@[simp] theorem run_guard_none {X Y : Prop} : run (guardW none e X Y) = run X := nr rfl
@[simp] theorem run_guard_some {d : Nat} {w : Bool} {X Y : Prop} : run (guardW (some (d, w)) e X Y) = run (gdW (e d) w X Y) := nr rfl
@[simp] theorem run_gd_true {b : Bool} {X Y : Prop} : run (gdW (.bool b) true X Y) = run (iffW (.bool b) X Y) := by cases b <;> rfl
@[simp] theorem run_gd_false {b : Bool} {X Y : Prop} : run (gdW (.bool b) false X Y) = run (iffW (.bool b) Y X) := by cases b <;> rfl
@[simp] theorem run_gd_und {w : Bool} {X Y : Prop} : run (gdW und w X Y) = run Y := nr rfl
@[simp] theorem run_ops_nil {K : EK} : run (opsW A [] e h K) = run (K e h) := nr rfl
@[simp] theorem run_ops_cons {d : Option Nat} {o : A1} {g : Option (Nat × Bool)} {l : List AOp} {K : EK} :
    run (opsW A (⟨d, o, g⟩ :: l) e h K) = run (guardW g e (opW A o e h fun v h' => opsW A l (e.put d v) h' K) (opsW A l (e.put d und) h K)) := nr rfl
@[simp] theorem run_still_nil {H : Obs} {X : Prop} : run (stillW [] e H X) = run X := nr rfl
@[simp] theorem run_still_cons {d : Nat} {q : R1} {g : Option (Nat × Bool)} {l : List AOp} {H : Obs} {X : Prop} :
    run (stillW (⟨some d, .r q, g⟩ :: l) e H X) = run (guardW g e (stillR (q.ev e H) (e d) (stillW l e H X)) (stillW l e H X)) := nr rfl
@[simp] theorem run_stillR {v : V} {X : Prop} : run (stillR (some v) v X) = run X := by simp [run, stillR]
@[simp] theorem run_draw_nil {K : EK} : run (drawW A [] e h K) = run (K e h) := nr rfl
@[simp] theorem run_draw_cons {d : Option Nat} {o : A1} {g : Option (Nat × Bool)} {chk : List AOp} {l : List (AOp × List AOp)} {K : EK} :
    run (drawW A ((⟨d, o, g⟩, chk) :: l) e h K) = run (guardW g e (opW A o e h fun v h' => stillW chk (e.put d v) h'.obj (drawW A l (e.put d v) h' K)) (drawW A l (e.put d und) h K)) := nr rfl
@[simp] theorem run_skip : run (codeW A .skip e h N R X) = run (N e h) := nr rfl
@[simp] theorem run_reg {l : List AOp} : run (codeW A (.reg l) e h N R X) = run (opsW A l e h N) := nr rfl
@[simp] theorem run_dreg {l : List (AOp × List AOp)} : run (codeW A (.dreg l) e h N R X) = run (drawW A l e h N) := nr rfl
@[simp] theorem run_seq {a b : ACode} : run (codeW A (.seq a b) e h N R X) = run (codeW A a e h (fun e h => codeW A b e h N R X) R X) := nr rfl
@[simp] theorem run_cond {c : Opd} {x y : ACode} : run (codeW A (.cond c x y) e h N R X) = run (iffW (c.val e) (codeW A x e h N R X) (codeW A y e h N R X)) := nr rfl
@[simp] theorem run_block {id : Nat} {c : ACode} : run (codeW A (.block id c) e h N R X) = run (codeW A c e h N R fun i e h => if i = id then N e h else X i e h) := nr rfl
@[simp] theorem run_loop {c : ACode} : run (codeW A (.loop c) e h N R X) = run (loopW A c e h N R X) := nr rfl
@[simp] theorem run_exit {i : Nat} : run (codeW A (.exit i) e h N R X) = run (X i e h) := nr rfl
@[simp] theorem run_ret : run (codeW A .ret e h N R X) = run (R e h) := nr rfl
@[simp] theorem run_res {rs : List ARes} : run (resW rs K e h) = run (gets (resVs e h.obj rs) fun v => K v h) := nr rfl
@[simp] theorem run_ex {α : Sort _} {p : α → Prop} : run (∃ x, p x) = ∃ x, p x := nr rfl
@[simp] theorem run_true : run True = True := nr rfl
@[simp] theorem run_false : run False = False := nr rfl
end

end
attribute [irreducible] codeW opsW drawW opW guardW gdW stillW stillR gets iffW hmW loopW callW callvW resW
end Go.Ab
