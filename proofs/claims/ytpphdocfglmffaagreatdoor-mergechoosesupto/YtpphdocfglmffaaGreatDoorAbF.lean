/- The pure operations, one by one. -/
import Derived.Test.YtpphdocfglmffaaGreatDoorAbE
set_option linter.unusedVariables false
set_option linter.unusedSimpArgs false
namespace Go.Ab

section
variable {P : Program} {ι : Inj} {w : World}

theorem int_run {op : BinOp} {t : TypeId} {k k' : IntKind} {x y : Int} {v : V} (h : bin op (.int k x) (.int k' y) = some v) :
    ∃ c, (binOp op t (.int k x) (.int k' y)).run P w = .ok c w ∧ VR ι v c := by
  have hb : ∀ o n, bitI o k x y = some n → (Op.intBits o k x y).run P w = .ok (.int k n) w := fun o n h => bitI_run h
  cases op <;> simp only [bin] at h
  case shl => split at h <;> simp at h; subst h; rename_i h0; exact ⟨_, by simp only [binOp, Op.shift, if_neg h0]; rfl, rfl⟩
  case shr => split at h <;> simp at h; subst h; rename_i h0; exact ⟨_, by simp only [binOp, Op.shift, if_neg h0]; rfl, rfl⟩
  all_goals
    split at h
    · simp at h
    rename_i hk
    have hk' : ¬ (k ≠ k') := hk
    simp only [binOp, hk', if_false]
  case quo => split at h <;> simp at h; subst h; rename_i h0; exact ⟨_, by simp only [Op.intDiv, if_neg h0]; rfl, rfl⟩
  case rem => split at h <;> simp at h; subst h; rename_i h0; exact ⟨_, by simp only [Op.intDiv, if_neg h0]; rfl, rfl⟩
  case and => simp only [Option.map_eq_some_iff] at h; obtain ⟨n, hn, rfl⟩ := h; exact ⟨_, hb _ _ hn, rfl⟩
  case or => simp only [Option.map_eq_some_iff] at h; obtain ⟨n, hn, rfl⟩ := h; exact ⟨_, hb _ _ hn, rfl⟩
  case xor => simp only [Option.map_eq_some_iff] at h; obtain ⟨n, hn, rfl⟩ := h; exact ⟨_, hb _ _ hn, rfl⟩
  case andNot => simp only [Option.map_eq_some_iff] at h; obtain ⟨n, hn, rfl⟩ := h; exact ⟨_, hb _ _ hn, rfl⟩
  all_goals
    simp only [Option.some.injEq] at h
    subst h
    exact ⟨_, rfl, rfl⟩

theorem bin_run {op : BinOp} {t : TypeId} {x y : V} {a b : Value} {v : V} (hx : VR ι x a) (hy : VR ι y b) (h : bin op x y = some v) (ox oy : Operand) :
    (eqGuard op t ox oy a b).run P w = .ok () w ∧ ∃ c, (binOp op t a b).run P w = .ok c w ∧ VR ι v c := by
  unfold bin at h
  split at h
  · rename_i k n k' m
    simp only [VR] at hx hy
    subst hx; subst hy
    exact ⟨by cases op <;> simp [eqGuard], int_run (by unfold bin; exact h)⟩
  · rename_i s u
    obtain ⟨c, rfl, rfl⟩ := hx
    obtain ⟨d, rfl, rfl⟩ := hy
    refine ⟨by cases op <;> simp [eqGuard], ?_⟩
    have := str_run (P := P) (ι := ι) (w := w) (op := op) (a := c) (b := d) (v := v) (by unfold bin; exact h)
    cases op <;> exact this
  · simp at h

theorem part_leaf {t : TypeId} {k : LK} (ht : leafKind P t = some k) {cs : Array Value} {i : Nat} {c : Value} (h : cs[i]? = some c) (w : World) : (part t cs i).run P w = .ok c w := by
  have hu : ∃ d, P.underlying t = some d ∧ (match d with | .struct _ | .array _ _ => False | _ => True) := by
    unfold leafKind at ht
    split at ht <;> simp at ht <;> exact ⟨_, by assumption, trivial⟩
  obtain ⟨d, hd, hn⟩ := hu
  unfold part isAgg
  cases d <;> simp at hn <;> simp [run_underlying' hd, h]

theorem leaf_eq {t : TypeId} {k : LK} {x y : V} {a b : Value} (ht : leafKind P t = some k) (hx : VR ι x a) (hy : VR ι y b) {ks : List LK} {xs ys : List V} {r : Bool} (h : eqvs (k :: ks) (x :: xs) (y :: ys) = some r) :
    ∃ q : Bool, (∀ d w, (Op.equalIn (d + 1) t a b).run P w = .ok q w) ∧ ((q = true ∧ eqvs ks xs ys = some r) ∨ (q = false ∧ r = false)) := by
  cases k <;> cases x <;> cases y <;> simp [eqvs] at h <;> simp only [VR] at hx hy
  case bool.bool.bool m n =>
    subst hx; subst hy
    have hu : P.underlying t = some .bool := by
      unfold leafKind at ht; split at ht <;> simp at ht; assumption
    refine ⟨m == n, fun d w => by simp [Op.equalIn, run_underlying' hu], ?_⟩
    split at h <;> rename_i e
    · exact .inl ⟨by simpa using e, h⟩
    · exact .inr ⟨by simpa using e, by simpa using h.symm⟩
  case int.int.int k m k' n =>
    subst hx; subst hy
    obtain ⟨rfl, h⟩ := h
    have hu : ∃ kk, P.underlying t = some (.int kk) := by
      unfold leafKind at ht; split at ht <;> simp at ht; exact ⟨_, by assumption⟩
    obtain ⟨kk, hu⟩ := hu
    refine ⟨m == n, fun d w => by simp [Op.equalIn, run_underlying' hu], ?_⟩
    split at h <;> rename_i e
    · exact .inl ⟨by simpa using e, h⟩
    · exact .inr ⟨by simpa using e, by simpa using h.symm⟩
  case str.str.str m n =>
    obtain ⟨c, rfl, rfl⟩ := hx
    obtain ⟨d, rfl, rfl⟩ := hy
    have hu : P.underlying t = some .string := by
      unfold leafKind at ht; split at ht <;> simp at ht; assumption
    refine ⟨c.data.toList == d.data.toList, fun d w => by simp [Op.equalIn, run_underlying' hu, beq_toListBytes, toList_data], ?_⟩
    split at h <;> rename_i e
    · exact .inl ⟨by simpa using e, h⟩
    · exact .inr ⟨by simpa using e, by simpa using h.symm⟩

theorem fields_eq (n : Nat) (as bs : Array Value) : ∀ (fs : List Field) (i : Nat) (ks : List LK) (xs ys : List V) (r : Bool), fieldKinds P fs i = some ks → VRs ι xs (as.toList.drop i) → VRs ι ys (bs.toList.drop i) →
    eqvs ks xs ys = some r → ∀ w, (Op.eqFields (n + 1) as bs fs).run P w = .ok r w
  | [], i, ks, xs, ys, r, hk, hx, hy, h, w => by
    simp [fieldKinds] at hk; subst hk
    cases xs <;> cases ys <;> simp [eqvs] at h
    subst h; simp [Op.eqFields]
  | f :: fs, i, ks, xs, ys, r, hk, hx, hy, h, w => by
    simp only [fieldKinds] at hk
    split at hk
    case isFalse => simp at hk
    rename_i hf
    simp only [Option.bind_eq_some_iff, Option.map_eq_some_iff] at hk
    obtain ⟨k, hk, ks, hks, rfl⟩ := hk
    cases xs with
    | nil => cases k <;> simp [eqvs] at h
    | cons x xs =>
      cases ys with
      | nil => cases k <;> cases x <;> simp [eqvs] at h
      | cons y ys =>
        obtain ⟨a, ra, ha, hxa, hxr⟩ := hx
        obtain ⟨b, rb, hb, hyb, hyr⟩ := hy
        obtain ⟨q, hq, hor⟩ := leaf_eq hk hxa hyb h
        have ga : as[f.offset]? = some a := by
          rw [hf.2]
          have := congrArg (fun l : List Value => l[0]?) ha
          simpa using this
        have gb : bs[f.offset]? = some b := by
          rw [hf.2]
          have := congrArg (fun l : List Value => l[0]?) hb
          simpa using this
        simp only [Op.eqFields, if_pos hf.1, Sem.run_bind, part_leaf hk ga, part_leaf hk gb, Result.andThen_ok, hq]
        have da : as.toList.drop (i + 1) = ra := by
          have := congrArg (List.drop 1) ha
          simpa [List.drop_drop, Nat.add_comm] using this
        have db : bs.toList.drop (i + 1) = rb := by
          have := congrArg (List.drop 1) hb
          simpa [List.drop_drop, Nat.add_comm] using this
        rcases hor with ⟨rfl, h2⟩ | ⟨rfl, rfl⟩
        · simp only [Bool.not_true, Bool.false_eq_true, if_false]
          exact fields_eq n as bs fs (i + 1) ks xs ys r hks (da ▸ hxr) (db ▸ hyr) h2 w
        · simp

end
end Go.Ab
