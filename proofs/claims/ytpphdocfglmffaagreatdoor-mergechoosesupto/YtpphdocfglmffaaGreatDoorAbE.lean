/- The pure operations: what the abstract machine answers, the model answers. -/
import Derived.Test.YtpphdocfglmffaaGreatDoorAbD
import Derived.Laws.Sem
import Derived.Laws.StructEq
import Derived.RowKit
set_option linter.unusedVariables false
set_option linter.unusedSimpArgs false
namespace Go.Ab

section
variable {P : Program} {ι : Inj} {w : World}

theorem run_underlying' {t : TypeId} {d : TypeDesc} (h : P.underlying t = some d) : (underlying t).run P w = .ok d w := by
  unfold underlying; simp [h]

theorem szOf_info {t : TypeId} {n : Nat} (h : szOf P t = some n) : ∃ i, P.info? t = some i ∧ i.size = n ∧ n ≠ 0 := by
  unfold szOf at h
  simp only [Option.bind_eq_some_iff] at h
  obtain ⟨i, hi, h⟩ := h
  split at h
  · simp at h
  · simp at h; exact ⟨i, hi, h, by omega⟩

theorem run_typeInfo {t : TypeId} {i : TypeInfo} (h : P.info? t = some i) : (typeInfo t).run P w = .ok i w := by
  unfold typeInfo; simp [h]

theorem run_sizeOf {t : TypeId} {n : Nat} (h : szOf P t = some n) : (sizeOf t).run P w = .ok n w := by
  obtain ⟨i, hi, hn, _⟩ := szOf_info h
  unfold sizeOf; simp [run_typeInfo hi, hn]

theorem run_zeroValue {t : TypeId} {v : V} (h : zeroOf P t = some v) : ∃ c, (∀ w, (zeroValue t).run P w = .ok c w) ∧ (∀ ι, VR ι v c) ∧ ∃ i, P.info? t = some i ∧ i.zero = some c := by
  unfold zeroOf at h
  simp only [Option.bind_eq_some_iff] at h
  obtain ⟨z, ⟨i, hi, hz⟩, hv⟩ := h
  refine ⟨z, fun w => ?_, fun ι => constV_rel hv, i, hi, hz⟩
  unfold zeroValue; simp [run_typeInfo hi, hz]

theorem asI_rel {v : V} {c : Value} {n : Int} (h : VR ι v c) (hn : asI v = some n) : ∃ k, v = .int k n ∧ c = .int k n := by
  unfold asI at hn
  split at hn
  · simp at hn; subst hn; rename_i k m; exact ⟨k, rfl, h⟩
  · simp at hn

theorem bitI_run {op : BinOp} {k : IntKind} {a b n : Int} (h : bitI op k a b = some n) : (Op.intBits op k a b).run P w = .ok (.int k n) w := by
  unfold bitI at h
  unfold Op.intBits
  cases op <;> simp at h <;> subst h <;> simp

theorem guard_run {op : BinOp} {t : TypeId} {x y : Operand} {a b : Value} (h1 : ∀ cs ds, ¬ (a = .agg cs ∧ b = .agg ds)) (h2 : ¬ (a = .nilIface ∧ b = .nilIface)) :
    (eqGuard op t x y a b).run P w = .ok () w := by
  unfold eqGuard
  cases a <;> cases b <;> simp at h1 h2 <;> cases op <;> simp

theorem equal_run {t : TypeId} {a b : Value} {r : Bool} (h : ∀ d, (Op.equalIn (d + 1) t a b).run P w = .ok r w) (f : Bool → Value) :
    (do pure (f (← Op.equal t a b)) : Sem Value).run P w = .ok (f r) w := by
  have e : Op.equal t a b = Op.equalIn (9999 + 1) t a b := rfl
  rw [e]
  simp [h 9999]

theorem eqk_run {t : TypeId} {q : QK} {x y : V} {a b : Value} {r : Bool} (ht : eqKind P t = some (some q)) (hx : VR ι x a) (hy : VR ι y b) (h : eqk q x y = some r) (op : BinOp) (ho : op = .eql ∨ op = .neq) (ox oy : Operand) :
    (eqGuard op t ox oy a b).run P w = .ok () w ∧ (binOp op t a b).run P w = .ok (.bool (if op = .neq then !r else r)) w := by
  have hu : ∃ d, P.underlying t = some d ∧ (match q, d with | .bool, .bool | .ptr, .pointer _ | .slice, .slice _ | .map, .map _ _ | .func, .func _ _ _ | .iface, .interface _ => True | _, _ => False) := by
    unfold eqKind at ht
    split at ht <;> simp at ht <;> subst ht <;> exact ⟨_, by assumption, trivial⟩
  obtain ⟨d, hd, hq⟩ := hu
  have key : (∀ d, (Op.equalIn (d + 1) t a b).run P w = .ok r w) ∧ (∀ op, (eqGuard op t ox oy a b).run P w = .ok () w) ∧ binOp .eql t a b = (do pure (.bool (← Op.equal t a b))) ∧ binOp .neq t a b = (do pure (.bool (!(← Op.equal t a b)))) := by
    unfold eqk at h
    split at h <;> simp only [Option.some.injEq, reduceCtorEq] at h <;> subst h <;> simp only [VR] at hx hy <;> cases d <;> simp only at hq
    all_goals
      first
        | (subst hx; subst hy)
        | (obtain ⟨_, _, rfl, _, _⟩ := hy; subst hx)
        | (obtain ⟨_, _, rfl, _, _⟩ := hx; subst hy)
        | (obtain ⟨_, _, _, rfl⟩ := hy; subst hx)
        | (obtain ⟨_, _, _, rfl⟩ := hx; subst hy)
        | (obtain ⟨_, _, _, _, _, rfl, _⟩ := hy; subst hx)
        | (obtain ⟨_, _, _, _, _, rfl, _⟩ := hx; subst hy)
        | (obtain ⟨_, _, rfl⟩ := hy; subst hx)
        | (obtain ⟨_, _, rfl⟩ := hx; subst hy)
        | (obtain ⟨_, _, rfl, _⟩ := hy; subst hx)
        | (obtain ⟨_, _, rfl, _⟩ := hx; subst hy)
        | (obtain ⟨_, rfl, _⟩ := hy; subst hx)
        | (obtain ⟨_, rfl, _⟩ := hx; subst hy)
    all_goals exact ⟨fun d => by simp [Op.equalIn, run_underlying' hd], fun op => by cases op <;> simp [eqGuard], rfl, rfl⟩
  obtain ⟨k1, k2, k3, k4⟩ := key
  refine ⟨k2 op, ?_⟩
  rcases ho with rfl | rfl
  · rw [k3]; exact equal_run k1 .bool
  · rw [k4]; exact equal_run k1 fun b => .bool !b

theorem toList_data (b : ByteArray) : b.toList = b.data.toList := ByteArray.toList_eq b

theorem ltB_eq : ∀ (a b : List UInt8), ltB a b = Op.bytesLess a b
  | _, [] => by simp [ltB, Op.bytesLess]
  | [], _ :: _ => by simp [ltB, Op.bytesLess]
  | a :: x, b :: y => by
    simp only [ltB, Op.bytesLess, ltB_eq x y]

theorem str_run {op : BinOp} {a b : ByteArray} {v : V} (h : bin op (.str a.data.toList) (.str b.data.toList) = some v) : ∃ c, (Op.stringOp op a b).run P w = .ok c w ∧ VR ι v c := by
  unfold Op.stringOp
  simp only [toList_data, ← ltB_eq]
  cases op <;> simp only [bin, reduceCtorEq] at h
  case add =>
    split at h
    · rename_i hl
      simp only [Array.length_toList] at hl
      simp only [Option.some.injEq] at h
      subst h
      have hl' : ¬ (((a.size + b.size : Nat) : Int) > IntKind.i64.max) := by
        have : a.size = a.data.size := rfl
        have : b.size = b.data.size := rfl
        simp [IntKind.max, IntKind.signed, IntKind.bits]; omega
      refine ⟨.string (a ++ b), by simp only [hl', if_false]; rfl, a ++ b, rfl, ?_⟩
      simp
    · simp at h
  all_goals
    simp only [Option.some.injEq] at h
    subst h
    exact ⟨_, rfl, by simp [VR]⟩

end
end Go.Ab
