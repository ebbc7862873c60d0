/- The pure operations, all of them. -/
import Derived.Test.YtpphdocfglmffaaGreatDoorAbF
set_option linter.unusedVariables false
set_option linter.unusedSimpArgs false
namespace Go.Ab

section
variable {P : Program} {ι : Inj} {w : World}

theorem array_eq (d : Nat) (t e : TypeId) (len : Nat) (k : LK) (hk : leafKind P e = some k) (as bs : Array Value) : ∀ (n i : Nat) (xs ys : List V) (r : Bool), VRs ι xs (as.toList.drop i) → VRs ι ys (bs.toList.drop i) →
    eqvs (List.replicate n k) xs ys = some r → ∀ w, ((forIn (List.range' i n 1) ((none, ()) : Option Bool × PUnit) fun j _ => do
      if (!(← Op.equalIn (d + 1) e (← part e as (j * 1)) (← part e bs (j * 1)))) = true then pure (.done (some false, ())) else pure (.yield (none, ())) : Sem (Option Bool × PUnit)).run P w) = .ok (if r then none else some false, ()) w
  | 0, i, xs, ys, r, hx, hy, h, w => by
    cases xs <;> cases ys <;> simp [eqvs] at h
    subst h; simp
  | n + 1, i, xs, ys, r, hx, hy, h, w => by
    rw [List.replicate_succ] at h
    cases xs with
    | nil => cases k <;> simp [eqvs] at h
    | cons x xs =>
      cases ys with
      | nil => cases k <;> cases x <;> simp [eqvs] at h
      | cons y ys =>
        obtain ⟨a, ra, ha, hxa, hxr⟩ := hx
        obtain ⟨b, rb, hb, hyb, hyr⟩ := hy
        obtain ⟨q, hq, hor⟩ := leaf_eq hk hxa hyb h
        have ga : as[i * 1]? = some a := by
          have := congrArg (fun l : List Value => l[0]?) ha
          simpa using this
        have gb : bs[i * 1]? = some b := by
          have := congrArg (fun l : List Value => l[0]?) hb
          simpa using this
        have da : as.toList.drop (i + 1) = ra := by
          have := congrArg (List.drop 1) ha
          simpa [List.drop_drop, Nat.add_comm] using this
        have db : bs.toList.drop (i + 1) = rb := by
          have := congrArg (List.drop 1) hb
          simpa [List.drop_drop, Nat.add_comm] using this
        rw [List.range'_succ, List.forIn_cons]
        simp only [Sem.run_bind, part_leaf hk ga, part_leaf hk gb, Result.andThen_ok, hq]
        rcases hor with ⟨rfl, h2⟩ | ⟨rfl, rfl⟩
        · simp only [Bool.not_true, Bool.false_eq_true, if_false, Sem.run_pure, Result.andThen_ok]
          exact array_eq d t e len k hk as bs n (i + 1) xs ys r (da ▸ hxr) (db ▸ hyr) h2 w
        · simp

theorem eqAgg_run {t : TypeId} {ks : List LK} {xs ys : List V} {a b : Value} {r : Bool} (ht : eqParts P t = some ks) (hx : VR ι (.agg xs) a) (hy : VR ι (.agg ys) b) (h : eqvs ks xs ys = some r) (op : BinOp) (ho : op = .eql ∨ op = .neq) (ox oy : Operand) :
    (eqGuard op t ox oy a b).run P w = .ok () w ∧ (binOp op t a b).run P w = .ok (.bool (if op = .neq then !r else r)) w := by
  obtain ⟨as, rfl, hx⟩ := hx
  obtain ⟨bs, rfl, hy⟩ := hy
  unfold eqParts at ht
  split at ht
  · simp at ht
  rename_i hg
  have key : ∀ d, (Op.equalIn (d + 1 + 1) t (.agg as) (.agg bs)).run P w = .ok r w := by
    intro d
    split at ht
    · rename_i fs hfs
      split at ht
      · simp at ht
      rename_i hs
      have hfs' : P.underlying t = some (.struct (P.fieldsOf t)) := by simp [Program.fieldsOf, hfs]
      rw [run_equalIn_agg _ _ _ _ _ hfs' (by simpa using hs)]
      have : (P.fieldsOf t) = fs := by simp [Program.fieldsOf, hfs]
      rw [this]
      exact fields_eq d as bs fs.toList 0 ks xs ys r ht (by simpa using hx) (by simpa using hy) h w
    · rename_i n e he
      split at ht
      case isFalse => simp at ht
      rename_i hz
      simp only [Option.map_eq_some_iff] at ht
      obtain ⟨k, hk, rfl⟩ := ht
      have := array_eq (P := P) (ι := ι) d t e n k hk as bs n 0 xs ys r (by simpa using hx) (by simpa using hy) h w
      rw [Op.equalIn]
      simp only [Sem.run_bind, run_underlying' he, Result.andThen_ok, run_sizeOf hz]
      simp only [Std.Legacy.Range.forIn_eq_forIn_range', Std.Legacy.Range.size, Nat.sub_zero, Nat.add_sub_cancel, Nat.div_one]
      refine (congrArg (fun x => Result.andThen x _) this).trans ?_
      cases r <;> simp
    · simp at ht
  rcases ho with rfl | rfl
  · refine ⟨by simp [eqGuard, hg], ?_⟩
    have e : binOp .eql t (.agg as) (.agg bs) = (do pure (.bool (← Op.equal t (.agg as) (.agg bs)))) := rfl
    rw [e]
    have := key 9998
    have e : Op.equal t (.agg as) (.agg bs) = Op.equalIn (9998 + 1 + 1) t (.agg as) (.agg bs) := rfl
    rw [e]
    simp [this]
  · refine ⟨by simp [eqGuard, hg], ?_⟩
    have e : binOp .neq t (.agg as) (.agg bs) = (do pure (.bool (!(← Op.equal t (.agg as) (.agg bs))))) := rfl
    rw [e]
    have := key 9998
    have e : Op.equal t (.agg as) (.agg bs) = Op.equalIn (9998 + 1 + 1) t (.agg as) (.agg bs) := rfl
    rw [e]
    simp [this]

end
end Go.Ab
