/- What the evaluator finds, the abstract machine does. -/
import Derived.Test.YtpphdocfglmffaaGreatDoorAbV
import Derived.Test.YtpphdocfglmffaaGreatDoorAbC
set_option linter.unusedVariables false
set_option linter.unusedSimpArgs false
namespace Go.Ab

theorem Tr.get_put {α : Type} (a : α) : ∀ (n : Nat) (t : Tr α) (i j : Nat), i < n → (Tr.put a n t i).get j = if j = i then some a else t.get j
  | 0, _, _, _, h => by omega
  | n + 1, .nil, i, j, h => by
    simp only [Tr.put]
    split
    · rename_i h0; subst h0
      simp only [Tr.get]
      split <;> rename_i hj
      · rfl
      · split <;> rfl
    · rename_i h0
      split
      · rename_i h1
        simp only [Tr.get]
        split
        · rename_i hj; rw [if_neg (by omega)]
        · rename_i hj
          split
          · rename_i hj1
            rw [Tr.get_put a n .nil (i / 2) (j / 2) (by omega)]
            by_cases hij : j = i
            · subst hij; simp
            · rw [if_neg hij, if_neg (by omega)]; rfl
          · rename_i hj1; rw [if_neg (by omega)]
      · rename_i h1
        simp only [Tr.get]
        split
        · rename_i hj; rw [if_neg (by omega)]
        · rename_i hj
          split
          · rename_i hj1; rw [if_neg (by omega)]
          · rename_i hj1
            rw [Tr.get_put a n .nil (i / 2 - 1) (j / 2 - 1) (by omega)]
            by_cases hij : j = i
            · subst hij; simp
            · rw [if_neg hij, if_neg (by omega)]; rfl
  | n + 1, .node l v r, i, j, h => by
    simp only [Tr.put]
    split
    · rename_i h0; subst h0
      simp only [Tr.get]
      split <;> rename_i hj
      · rfl
      · rfl
    · rename_i h0
      split
      · rename_i h1
        simp only [Tr.get]
        split
        · rename_i hj; rw [if_neg (by omega)]
        · rename_i hj
          split
          · rename_i hj1
            rw [Tr.get_put a n l (i / 2) (j / 2) (by omega)]
            by_cases hij : j = i
            · subst hij; simp
            · rw [if_neg hij, if_neg (by omega)]
          · rename_i hj1; rw [if_neg (by omega)]
      · rename_i h1
        simp only [Tr.get]
        split
        · rename_i hj; rw [if_neg (by omega)]
        · rename_i hj
          split
          · rename_i hj1; rw [if_neg (by omega)]
          · rename_i hj1
            rw [Tr.get_put a n r (i / 2 - 1) (j / 2 - 1) (by omega)]
            by_cases hij : j = i
            · subst hij; simp
            · rw [if_neg hij, if_neg (by omega)]

def TH.hp (h : TH) : Hp := { obj := h.tr.get, nx := h.nx }

theorem TE.env_put (e : TE) (d : Option Nat) (v : V) : (e.put d v).env = e.env.put d v := by
  cases d with
  | none => rfl
  | some t =>
    funext u
    simp only [TE.env, TE.put, Tr.get_put v (t + 1) e t u (by omega), Env.put, Env.upd]
    split <;> rfl

theorem TH.hp_set (h : TH) (i : Nat) (o : Ob) : (h.set i o).hp = h.hp.set i o := by
  simp only [TH.hp, TH.set, Hp.set, Hp.mk.injEq, and_true]
  funext j
  rw [Tr.get_put o (i + 1) h.tr i j (by omega)]

theorem TH.hp_new (h : TH) (o : Ob) : (h.new o).hp = h.hp.new o := by
  simp only [TH.hp, TH.new, Hp.new, Hp.mk.injEq, and_true]
  funext j
  rw [Tr.get_put o (h.nx + 1) h.tr h.nx j (by omega)]
  rfl

theorem HM.ev_wp {Q : V → Hp → Prop} : ∀ {m : HM} {h h' : TH} {v : V}, m.ev h = some (v, h') → Q v h'.hp → m.wp h.hp Q
  | .ret u, h, h', v, he, hq => by simp only [HM.ev, Option.some.injEq, Prod.mk.injEq] at he; obtain ⟨rfl, rfl⟩ := he; exact hq
  | .fail, h, h', v, he, hq => by simp [HM.ev] at he
  | .get i k, h, h', v, he, hq => by
    simp only [HM.ev] at he
    split at he
    · rename_i o ho; exact ⟨o, ho, HM.ev_wp he hq⟩
    · simp at he
  | .set i o k, h, h', v, he, hq => by
    have := HM.ev_wp (m := k) he hq
    rw [TH.hp_set] at this; exact this
  | .new o k, h, h', v, he, hq => by
    have := HM.ev_wp (m := k h.nx) he hq
    rw [TH.hp_new] at this; exact this
  | .pick n k, h, h', v, he, hq => by
    simp only [HM.ev] at he
    split at he
    · rename_i hn; subst hn
      exact ⟨by omega, fun c hc => by
        have : c = 0 := by omega
        subst this; exact HM.ev_wp he hq⟩
    · simp at he

mutual
theorem V.eqb_eq : ∀ {a b : V}, V.eqb a b = true → a = b
  | .bool a, b, h => by cases b <;> simp [V.eqb] at h; rw [h]
  | .int k a, b, h => by cases b <;> simp [V.eqb] at h; rw [h.1, h.2]
  | .str a, b, h => by cases b <;> simp [V.eqb] at h; rw [h]
  | .nptr, b, h => by cases b <;> simp [V.eqb] at h; rfl
  | .nslc, b, h => by cases b <;> simp [V.eqb] at h; rfl
  | .nmap, b, h => by cases b <;> simp [V.eqb] at h; rfl
  | .nfn, b, h => by cases b <;> simp [V.eqb] at h; rfl
  | .nifc, b, h => by cases b <;> simp [V.eqb] at h; rfl
  | .ptr s g o, b, h => by cases b <;> simp [V.eqb] at h; obtain ⟨⟨rfl, rfl⟩, rfl⟩ := h; rfl
  | .slc s g o n c z, b, h => by cases b <;> simp [V.eqb] at h; obtain ⟨⟨⟨⟨⟨rfl, rfl⟩, rfl⟩, rfl⟩, rfl⟩, rfl⟩ := h; rfl
  | .map r, b, h => by cases b <;> simp [V.eqb] at h; rw [h]
  | .it r, b, h => by cases b <;> simp [V.eqb] at h; rw [h]
  | .fn f xs ys, b, h => by
    cases b with
    | fn f' xs' ys' =>
      cases f <;> cases f' <;> simp [V.eqb] at h
      obtain ⟨⟨rfl, h1⟩, h2⟩ := h
      rw [V.eqbs_eq h1, V.eqbs_eq h2]
    | _ => cases f <;> simp [V.eqb] at h
  | .ifc t v, b, h => by
    cases b <;> simp [V.eqb] at h
    rw [h.1, V.eqb_eq h.2]
  | .agg xs, b, h => by
    cases b <;> simp [V.eqb] at h
    rw [V.eqbs_eq h]
  | .tup xs, b, h => by
    cases b <;> simp [V.eqb] at h
    rw [V.eqbs_eq h]
theorem V.eqbs_eq : ∀ {a b : List V}, V.eqbs a b = true → a = b
  | [], b, h => by cases b <;> simp [V.eqbs] at h; rfl
  | x :: xs, b, h => by
    cases b <;> simp [V.eqbs] at h
    rw [V.eqb_eq h.1, V.eqbs_eq h.2]
end

section
variable {A : Tb}

def CallOk (A : Tb) (call : CallF) : Prop := ∀ f args h v h', call f args h = some (v, h') → ∀ Q : Rs → Hp → Prop, Q (.val v) h'.hp → WP A (.call f args) h.hp Q

theorem evA_wp {call : CallF} (hc : CallOk A call) {e : Env} {o : A1} {h h' : TH} {v : V} (he : evA call e o h = some (v, h')) {Q : Rs → Hp → Prop} (hq : Q (.val v) h'.hp) : WP A (.op o e) h.hp Q := by
  cases o with
  | p q =>
    simp only [evA, Option.map_eq_some_iff, Prod.mk.injEq] at he
    obtain ⟨u, hu, rfl, rfl⟩ := he
    exact .p hu hq
  | r q =>
    simp only [evA, Option.map_eq_some_iff, Prod.mk.injEq] at he
    obtain ⟨u, hu, rfl, rfl⟩ := he
    exact .r hu hq
  | n q =>
    simp only [evA, Option.map_eq_some_iff, Prod.mk.injEq] at he
    obtain ⟨u, hu, rfl, rfl⟩ := he
    rw [TH.hp_new] at hq
    exact .n hu hq
  | e q => exact .e (HM.ev_wp (Q := fun v k => Q (.val v) k) he hq)
  | call f l => exact .call (hc _ _ _ _ _ he Q hq)
  | callv x l =>
    simp only [evA] at he
    split at he
    · rename_i hx; exact .callv hx (hc _ _ _ _ _ he Q hq)
    · simp at he
  | bad => simp [evA] at he

theorem evOps_wp {call : CallF} (hc : CallOk A call) : ∀ {l : List AOp} {e e' : TE} {h h' : TH}, evOps call l e h = some (e', h') → ∀ {Q : Rs → Hp → Prop}, Q (.env e'.env) h'.hp → WP A (.ops l e.env) h.hp Q
  | [], e, e', h, h', he, Q, hq => by
    simp only [evOps, Option.some.injEq, Prod.mk.injEq] at he
    obtain ⟨rfl, rfl⟩ := he
    exact .nil hq
  | o :: l, e, e', h, h', he, Q, hq => by
    simp only [evOps] at he
    split at he
    · rename_i hw
      simp only [Option.bind_eq_some_iff] at he
      obtain ⟨⟨v, k⟩, hv, he⟩ := he
      refine .cons (R := fun r k' => r = .val v ∧ k' = k.hp) hw (evA_wp hc hv ⟨rfl, rfl⟩) ?_
      rintro v' h' ⟨hv', rfl⟩
      simp only [Rs.val.injEq] at hv'; subst hv'
      have := evOps_wp hc he hq
      rwa [TE.env_put] at this
    · rename_i hw
      refine .drop (by simpa using hw) ?_
      have := evOps_wp hc he hq
      rwa [TE.env_put] at this

theorem still_ok {e : TE} {h : TH} {o : AOp} (hs : still e h o = true) : Still o e.env h.hp.obj := by
  intro hw q hq
  unfold still at hs
  rw [if_pos hw, hq] at hs
  dsimp only at hs
  split at hs
  · rename_i v hv
    refine ⟨v, hv, fun d hd => ?_⟩
    unfold AOp.dsts at hd
    split at hs
    · rename_i t ht
      rw [ht] at hd
      simp only [List.mem_singleton] at hd
      subst hd
      exact (V.eqb_eq hs).symm
    · rename_i ht; rw [ht] at hd; simp at hd
  · simp at hs

theorem evDraw_wp {call : CallF} (hc : CallOk A call) : ∀ {l : List (AOp × List AOp)} {e e' : TE} {h h' : TH}, evDraw call l e h = some (e', h') → ∀ {Q : Rs → Hp → Prop}, Q (.env e'.env) h'.hp → WP A (.draw l e.env) h.hp Q
  | [], e, e', h, h', he, Q, hq => by
    simp only [evDraw, Option.some.injEq, Prod.mk.injEq] at he
    obtain ⟨rfl, rfl⟩ := he
    exact .dnil hq
  | (o, chk) :: l, e, e', h, h', he, Q, hq => by
    simp only [evDraw] at he
    split at he
    · rename_i hw
      simp only [Option.bind_eq_some_iff] at he
      obtain ⟨⟨v, k⟩, hv, he⟩ := he
      dsimp only at he
      split at he
      case isFalse => simp at he
      rename_i hst
      refine .dcons (R := fun r k' => r = .val v ∧ k' = k.hp) hw (evA_wp hc hv ⟨rfl, rfl⟩) ?_ ?_
      · rintro v' h' ⟨hv', rfl⟩ r hr
        simp only [Rs.val.injEq] at hv'; subst hv'
        have := still_ok (List.all_eq_true.1 hst r hr)
        rwa [TE.env_put] at this
      · rintro v' h' ⟨hv', rfl⟩
        simp only [Rs.val.injEq] at hv'; subst hv'
        have := evDraw_wp hc he hq
        rwa [TE.env_put] at this
    · rename_i hw
      refine .ddrop (by simpa using hw) ?_
      have := evDraw_wp hc he hq
      rwa [TE.env_put] at this

theorem evCode_wp {call : CallF} (hc : CallOk A call) : ∀ {n : Nat} {c : ACode} {e e' : TE} {h h' : TH} {x : Ex}, evCode call n c e h = some (x, e', h') → ∀ {Q : Rs → Hp → Prop}, Q (.ex x e'.env) h'.hp → WP A (.code c e.env) h.hp Q := by
  intro n
  induction n with
  | zero => intro c e e' h h' x he; simp [evCode] at he
  | succ n ih =>
    intro c e e' h h' x he Q hq
    cases c with
    | skip => simp only [evCode, Option.some.injEq, Prod.mk.injEq] at he; obtain ⟨rfl, rfl, rfl⟩ := he; exact .skip hq
    | exit i => simp only [evCode, Option.some.injEq, Prod.mk.injEq] at he; obtain ⟨rfl, rfl, rfl⟩ := he; exact .exit hq
    | ret => simp only [evCode, Option.some.injEq, Prod.mk.injEq] at he; obtain ⟨rfl, rfl, rfl⟩ := he; exact .ret hq
    | rfun => simp [evCode] at he
    | bad => simp [evCode] at he
    | reg ops =>
      simp only [evCode, Option.map_eq_some_iff, Prod.mk.injEq] at he
      obtain ⟨p, hr, rfl, rfl⟩ := he
      refine .reg (R := fun r k' => r = .env e'.env ∧ k' = h'.hp) (evOps_wp hc hr ⟨rfl, rfl⟩) ?_
      rintro e2 h2 ⟨he2, rfl⟩
      simp only [Rs.env.injEq] at he2; subst he2; exact hq
    | dreg ops =>
      simp only [evCode, Option.map_eq_some_iff, Prod.mk.injEq] at he
      obtain ⟨p, hr, rfl, rfl⟩ := he
      refine .dreg (R := fun r k' => r = .env e'.env ∧ k' = h'.hp) (evDraw_wp hc hr ⟨rfl, rfl⟩) ?_
      rintro e2 h2 ⟨he2, rfl⟩
      simp only [Rs.env.injEq] at he2; subst he2; exact hq
    | seq a b =>
      simp only [evCode, Option.bind_eq_some_iff] at he
      obtain ⟨⟨x1, e1, h1⟩, h1e, he⟩ := he
      refine .seq (R := fun r k' => r = .ex x1 e1.env ∧ k' = h1.hp) (ih h1e ⟨rfl, rfl⟩) ?_ ?_
      · rintro e2 h2 ⟨hr, rfl⟩
        simp only [Rs.ex.injEq] at hr
        obtain ⟨rfl, rfl⟩ := hr
        rw [if_pos rfl] at he
        exact ih he hq
      · rintro x2 e2 h2 hx ⟨hr, rfl⟩
        simp only [Rs.ex.injEq] at hr
        obtain ⟨rfl, rfl⟩ := hr
        rw [if_neg hx] at he
        simp only [Option.some.injEq, Prod.mk.injEq] at he
        obtain ⟨rfl, rfl, rfl⟩ := he
        exact hq
    | cond c a b =>
      simp only [evCode] at he
      split at he
      · rename_i t ht; exact .cond ht (ih he hq)
      · simp at he
    | block i c =>
      simp only [evCode, Option.map_eq_some_iff] at he
      obtain ⟨⟨x1, e1, h1⟩, h1e, he⟩ := he
      refine .block (R := fun r k' => r = .ex x1 e1.env ∧ k' = h1.hp) (ih h1e ⟨rfl, rfl⟩) ?_
      rintro x2 e2 h2 ⟨hr, rfl⟩
      simp only [Rs.ex.injEq] at hr
      obtain ⟨rfl, rfl⟩ := hr
      dsimp only at he
      split at he
      · rename_i hx
        simp only [Prod.mk.injEq] at he
        obtain ⟨rfl, rfl, rfl⟩ := he
        rw [hx]; simp only [outOf, if_true]; exact hq
      · rename_i hx
        simp only [Prod.mk.injEq] at he
        obtain ⟨rfl, rfl, rfl⟩ := he
        cases x2 with
        | exit j => simp only [outOf]; rw [if_neg (fun hh => hx (by rw [hh]))]; exact hq
        | nrm => exact hq
        | ret => exact hq
    | loop c =>
      simp only [evCode, Option.bind_eq_some_iff] at he
      obtain ⟨⟨x1, e1, h1⟩, h1e, he⟩ := he
      refine .loop (R := fun r k' => r = .ex x1 e1.env ∧ k' = h1.hp) (ih h1e ⟨rfl, rfl⟩) ?_ ?_
      · rintro e2 h2 ⟨hr, rfl⟩
        simp only [Rs.ex.injEq] at hr
        obtain ⟨rfl, rfl⟩ := hr
        rw [if_pos rfl] at he
        exact ih he hq
      · rintro x2 e2 h2 hx ⟨hr, rfl⟩
        simp only [Rs.ex.injEq] at hr
        obtain ⟨rfl, rfl⟩ := hr
        rw [if_neg hx] at he
        simp only [Option.some.injEq, Prod.mk.injEq] at he
        obtain ⟨rfl, rfl, rfl⟩ := he
        exact hq

theorem argEnv_get : ∀ (l : List V) (i : Nat) (e : TE) (t : Nat), (argEnv l i e).get t = if i ≤ t ∧ t < i + l.length then l[t - i]? else e.get t
  | [], i, e, t => by simp only [argEnv, List.length_nil]; rw [if_neg (by omega)]
  | v :: l, i, e, t => by
    simp only [argEnv]
    rw [argEnv_get l (i + 1), Tr.get_put v (i + 1) e i t (by omega)]
    simp only [List.length_cons]
    by_cases h1 : t = i
    · subst h1
      rw [if_neg (by omega), if_pos rfl, if_pos (by omega)]; simp
    · rw [if_neg h1]
      by_cases h2 : i + 1 ≤ t ∧ t < i + 1 + l.length
      · rw [if_pos h2, if_pos (by omega), show t - i = (t - (i + 1)) + 1 from by omega]; simp
      · rw [if_neg h2, if_neg (by omega)]

theorem argEnv_env (l : List V) : (argEnv l 0 .nil).env = argE l := by
  funext t
  simp only [TE.env, argE, argEnv_get, List.getD_eq_getElem?_getD]
  by_cases h : t < l.length
  · rw [if_pos (by omega)]; simp
  · rw [if_neg (by omega), List.getElem?_eq_none (by omega)]; rfl

theorem evCall_ok : ∀ n, CallOk A (evCall A.fn n)
  | 0 => by intro f args h v h' he; simp [evCall] at he
  | n + 1 => by
    intro f args h v h' he Q hq
    simp only [evCall] at he
    split at he
    · simp at he
    · rename_i fn hfn
      simp only [Option.bind_eq_some_iff] at he
      obtain ⟨⟨x, e1, h1⟩, h1e, he⟩ := he
      have key := evCode_wp (evCall_ok n) h1e (Q := fun r k' => r = .ex x e1.env ∧ k' = h1.hp) ⟨rfl, rfl⟩
      rw [argEnv_env] at key
      refine .enter hfn key ?_
      rintro x2 e2 h2 ⟨hr, rfl⟩
      simp only [Rs.ex.injEq] at hr
      obtain ⟨rfl, rfl⟩ := hr
      dsimp only at he
      split at he
      · simp at he
      · rename_i hne
        simp only [Option.map_eq_some_iff, Prod.mk.injEq] at he
        obtain ⟨u, hu, rfl, rfl⟩ := he
        exact ⟨fun i => hne i, u, hu, hq⟩

end
end Go.Ab
