/- Calls. -/
import Derived.Test.YtpphdocfglmffaaGreatDoorAbZ
set_option linter.unusedVariables false
set_option linter.unusedSimpArgs false
namespace Go.Ab

section
variable {P : Program}

theorem cOp_call {o : Oper} {f : Nat} {l : List Opd} (hc : cOp P o.op = some (.call f l)) :
    ∃ args ts fn, o.op = .call { callee := .value (.func f), args := args, argTypes := ts } ∧ P.funcs[f]? = some fn ∧ (fn.name == "runtime.NumGoroutine") = false ∧ fn.body.isSome = true ∧ allO cOpd args.toList = some l := by
  cases ho : o.op with
  | alloc t => rw [ho] at hc; simp [cOp] at hc
  | box t x => rw [ho] at hc; simp [cOp] at hc
  | buildSlice t n ps =>
    rw [ho] at hc; simp only [cOp, Option.bind_eq_some_iff] at hc
    obtain ⟨d, _, hc⟩ := hc
    cases d <;> simp [Option.bind_eq_some_iff] at hc
  | makeMap t r =>
    rw [ho] at hc; simp only [cOp, Option.bind_eq_some_iff] at hc
    obtain ⟨d, _, hc⟩ := hc
    cases d <;> simp at hc
    split at hc <;> simp at hc
  | makeSlice t l c =>
    rw [ho] at hc; simp only [cOp, Option.bind_eq_some_iff] at hc
    obtain ⟨d, _, hc⟩ := hc
    cases d <;> simp [Option.bind_eq_some_iff] at hc
  | convert a b x =>
    rw [ho] at hc; simp only [cOp, Option.bind_eq_some_iff] at hc
    obtain ⟨_, _, _, _, _, _, hc⟩ := hc
    split at hc
    · simp at hc
    · simp at hc
    · split at hc
      · split at hc <;> simp at hc
      · simp at hc
    · split at hc <;> simp at hc
    · split at hc
      · split at hc <;> simp at hc
      · simp at hc
    · simp at hc
  | move x => rw [ho] at hc; simp [cOp] at hc
  | assign x => rw [ho] at hc; simp [cOp] at hc
  | pick c a b => rw [ho] at hc; simp [cOp, Option.bind_eq_some_iff] at hc
  | build t ps =>
    rw [ho] at hc; simp only [cOp, Option.bind_eq_some_iff] at hc
    obtain ⟨d, _, _, _, hc⟩ := hc
    cases d <;> simp [Option.bind_eq_some_iff] at hc
  | load t a => rw [ho] at hc; simp [cOp, Option.bind_eq_some_iff] at hc
  | store t a x => rw [ho] at hc; simp [cOp, Option.bind_eq_some_iff] at hc
  | nilCheck x => rw [ho] at hc; simp [cOp] at hc
  | binOp bop t x y u =>
    rw [ho] at hc; simp only [cOp, Option.bind_eq_some_iff] at hc
    obtain ⟨_, _, _, _, hc⟩ := hc
    split at hc
    · split at hc <;> simp at hc
    · split at hc <;> simp at hc
    · simp at hc
  | unOp uop t x => rw [ho] at hc; simp [cOp] at hc
  | sliceToArrayPointer arr x =>
    rw [ho] at hc; simp only [cOp, Option.bind_eq_some_iff] at hc
    obtain ⟨_, _, d, _, hc⟩ := hc
    cases d <;> simp at hc
  | makeInterface t x =>
    rw [ho] at hc; simp only [cOp, Option.bind_eq_some_iff] at hc
    obtain ⟨_, _, d, _, hc⟩ := hc
    cases d <;> simp at hc
  | makeFunc f a b =>
    rw [ho] at hc; simp only [cOp] at hc
    split at hc <;> simp [Option.bind_eq_some_iff] at hc
  | slice t x lo hi mx =>
    rw [ho] at hc; simp only [cOp, Option.bind_eq_some_iff] at hc
    obtain ⟨_, _, _, _, _, _, _, _, d, _, hc⟩ := hc
    cases d <;> simp [Option.bind_eq_some_iff] at hc
    obtain ⟨d, _, hc⟩ := hc
    cases d <;> simp at hc
  | fieldAddr s x f =>
    rw [ho] at hc; simp only [cOp, Option.bind_eq_some_iff] at hc
    obtain ⟨_, _, d, _, hc⟩ := hc
    cases d <;> simp at hc
  | field t x f =>
    rw [ho] at hc; simp only [cOp, Option.bind_eq_some_iff] at hc
    obtain ⟨_, _, d, _, hc⟩ := hc
    cases d <;> simp [Option.bind_eq_some_iff] at hc
  | indexAddr t x i =>
    rw [ho] at hc; simp only [cOp, Option.bind_eq_some_iff] at hc
    obtain ⟨_, _, _, _, d, _, hc⟩ := hc
    cases d <;> simp at hc
  | index t x i =>
    rw [ho] at hc; simp only [cOp, Option.bind_eq_some_iff] at hc
    obtain ⟨_, _, _, _, d, _, hc⟩ := hc
    cases d <;> simp [Option.bind_eq_some_iff] at hc
  | lookup t m k ok =>
    rw [ho] at hc; simp only [cOp, Option.bind_eq_some_iff] at hc
    obtain ⟨_, _, _, _, d, _, hc⟩ := hc
    cases d <;> simp [Option.bind_eq_some_iff] at hc
  | mapUpdate t m k x =>
    rw [ho] at hc; simp only [cOp, Option.bind_eq_some_iff] at hc
    obtain ⟨_, _, _, _, _, _, d, _, hc⟩ := hc
    cases d <;> simp at hc
  | insert t m k x =>
    rw [ho] at hc; simp only [cOp, Option.bind_eq_some_iff] at hc
    obtain ⟨_, _, _, _, _, _, d, _, hc⟩ := hc
    cases d <;> simp at hc
  | range t x =>
    rw [ho] at hc; simp only [cOp, Option.bind_eq_some_iff] at hc
    obtain ⟨_, _, d, _, hc⟩ := hc
    cases d <;> simp at hc
  | next it s => rw [ho] at hc; cases s <;> simp [cOp] at hc
  | entry it => rw [ho] at hc; simp [cOp] at hc
  | typeAssert x xt t ok =>
    rw [ho] at hc
    cases ok
    · simp only [cOp, Option.bind_eq_some_iff] at hc
      obtain ⟨_, _, d, _, hc⟩ := hc
      cases d <;> simp at hc
    · simp [cOp] at hc
  | extract t i => rw [ho] at hc; simp [cOp] at hc
  | call c =>
    rw [ho] at hc
    obtain ⟨callee, args, ts⟩ := c
    simp only [cOp] at hc
    split at hc
    · rename_i b
      cases b <;> simp only [cBuiltin, cLen, cAppend, cCopy, cDelete, cMinmax, reduceCtorEq] at hc
      all_goals (split at hc)
      all_goals (simp only [Option.bind_eq_some_iff, Option.map_eq_some_iff, reduceCtorEq] at hc)
      · obtain ⟨_, _, _, _, _, _, _, _, _, _, _, _, hc⟩ := hc
        split at hc
        · split at hc
          · simp at hc
          · simp only [Option.bind_eq_some_iff] at hc
            obtain ⟨_, _, _, _, _, _, hc⟩ := hc
            split at hc <;> simp at hc
        · simp at hc
      · obtain ⟨_, _, _, _, _, _, _, _, hc⟩ := hc
        split at hc <;> simp at hc
      · obtain ⟨_, _, _, _, _, _, _, _, hc⟩ := hc
        split at hc <;> simp at hc
      · obtain ⟨_, _, _, _, _, _, hc⟩ := hc
        split at hc <;> simp at hc
      · obtain ⟨_, _, _, _, hc⟩ := hc
        simp at hc
      · obtain ⟨_, _, _, _, hc⟩ := hc
        simp at hc
    · rename_i g
      simp only [Option.bind_eq_some_iff] at hc
      obtain ⟨fn, hfn, hc⟩ := hc
      split at hc
      · simp at hc
      rename_i hng
      split at hc
      · rename_i hbody
        simp only [Option.map_eq_some_iff, A1.call.injEq] at hc
        obtain ⟨ls, hls, rfl, rfl⟩ := hc
        exact ⟨args, ts, fn, rfl, hfn, by simpa using hng, hbody, hls⟩
      split at hc
      case isFalse => simp at hc
      unfold cExtern at hc
      split at hc
      · simp only [Option.bind_eq_some_iff] at hc
        obtain ⟨_, _, _, _, hc⟩ := hc
        repeat' (split at hc)
        all_goals simp at hc
      · simp only [Option.bind_eq_some_iff] at hc
        obtain ⟨_, _, hc⟩ := hc
        split at hc <;> simp at hc
      · simp at hc
    · rename_i y hny
      simp only [Option.bind_eq_some_iff, Option.map_eq_some_iff] at hc
      obtain ⟨_, _, _, _, hc⟩ := hc
      simp at hc
    · simp at hc
  | _ => rw [ho] at hc; simp [cOp] at hc

theorem cOp_callv {o : Oper} {x : Opd} {l : List Opd} (hc : cOp P o.op = some (.callv x l)) :
    ∃ y args ts, o.op = .call { callee := .value y, args := args, argTypes := ts } ∧ cOpd y = some x ∧ allO cOpd args.toList = some l := by
  cases ho : o.op with
  | alloc t => rw [ho] at hc; simp [cOp] at hc
  | box t x => rw [ho] at hc; simp [cOp] at hc
  | buildSlice t n ps =>
    rw [ho] at hc; simp only [cOp, Option.bind_eq_some_iff] at hc
    obtain ⟨d, _, hc⟩ := hc
    cases d <;> simp [Option.bind_eq_some_iff] at hc
  | makeMap t r =>
    rw [ho] at hc; simp only [cOp, Option.bind_eq_some_iff] at hc
    obtain ⟨d, _, hc⟩ := hc
    cases d <;> simp at hc
    split at hc <;> simp at hc
  | makeSlice t l c =>
    rw [ho] at hc; simp only [cOp, Option.bind_eq_some_iff] at hc
    obtain ⟨d, _, hc⟩ := hc
    cases d <;> simp [Option.bind_eq_some_iff] at hc
  | convert a b x =>
    rw [ho] at hc; simp only [cOp, Option.bind_eq_some_iff] at hc
    obtain ⟨_, _, _, _, _, _, hc⟩ := hc
    split at hc
    · simp at hc
    · simp at hc
    · split at hc
      · split at hc <;> simp at hc
      · simp at hc
    · split at hc <;> simp at hc
    · split at hc
      · split at hc <;> simp at hc
      · simp at hc
    · simp at hc
  | move x => rw [ho] at hc; simp [cOp] at hc
  | assign x => rw [ho] at hc; simp [cOp] at hc
  | pick c a b => rw [ho] at hc; simp [cOp, Option.bind_eq_some_iff] at hc
  | build t ps =>
    rw [ho] at hc; simp only [cOp, Option.bind_eq_some_iff] at hc
    obtain ⟨d, _, _, _, hc⟩ := hc
    cases d <;> simp [Option.bind_eq_some_iff] at hc
  | load t a => rw [ho] at hc; simp [cOp, Option.bind_eq_some_iff] at hc
  | store t a x => rw [ho] at hc; simp [cOp, Option.bind_eq_some_iff] at hc
  | nilCheck x => rw [ho] at hc; simp [cOp] at hc
  | binOp bop t x y u =>
    rw [ho] at hc; simp only [cOp, Option.bind_eq_some_iff] at hc
    obtain ⟨_, _, _, _, hc⟩ := hc
    split at hc
    · split at hc <;> simp at hc
    · split at hc <;> simp at hc
    · simp at hc
  | unOp uop t x => rw [ho] at hc; simp [cOp] at hc
  | sliceToArrayPointer arr x =>
    rw [ho] at hc; simp only [cOp, Option.bind_eq_some_iff] at hc
    obtain ⟨_, _, d, _, hc⟩ := hc
    cases d <;> simp at hc
  | makeInterface t x =>
    rw [ho] at hc; simp only [cOp, Option.bind_eq_some_iff] at hc
    obtain ⟨_, _, d, _, hc⟩ := hc
    cases d <;> simp at hc
  | makeFunc f a b =>
    rw [ho] at hc; simp only [cOp] at hc
    split at hc <;> simp [Option.bind_eq_some_iff] at hc
  | slice t x lo hi mx =>
    rw [ho] at hc; simp only [cOp, Option.bind_eq_some_iff] at hc
    obtain ⟨_, _, _, _, _, _, _, _, d, _, hc⟩ := hc
    cases d <;> simp [Option.bind_eq_some_iff] at hc
    obtain ⟨d, _, hc⟩ := hc
    cases d <;> simp at hc
  | fieldAddr s x f =>
    rw [ho] at hc; simp only [cOp, Option.bind_eq_some_iff] at hc
    obtain ⟨_, _, d, _, hc⟩ := hc
    cases d <;> simp at hc
  | field t x f =>
    rw [ho] at hc; simp only [cOp, Option.bind_eq_some_iff] at hc
    obtain ⟨_, _, d, _, hc⟩ := hc
    cases d <;> simp [Option.bind_eq_some_iff] at hc
  | indexAddr t x i =>
    rw [ho] at hc; simp only [cOp, Option.bind_eq_some_iff] at hc
    obtain ⟨_, _, _, _, d, _, hc⟩ := hc
    cases d <;> simp at hc
  | index t x i =>
    rw [ho] at hc; simp only [cOp, Option.bind_eq_some_iff] at hc
    obtain ⟨_, _, _, _, d, _, hc⟩ := hc
    cases d <;> simp [Option.bind_eq_some_iff] at hc
  | lookup t m k ok =>
    rw [ho] at hc; simp only [cOp, Option.bind_eq_some_iff] at hc
    obtain ⟨_, _, _, _, d, _, hc⟩ := hc
    cases d <;> simp [Option.bind_eq_some_iff] at hc
  | mapUpdate t m k x =>
    rw [ho] at hc; simp only [cOp, Option.bind_eq_some_iff] at hc
    obtain ⟨_, _, _, _, _, _, d, _, hc⟩ := hc
    cases d <;> simp at hc
  | insert t m k x =>
    rw [ho] at hc; simp only [cOp, Option.bind_eq_some_iff] at hc
    obtain ⟨_, _, _, _, _, _, d, _, hc⟩ := hc
    cases d <;> simp at hc
  | range t x =>
    rw [ho] at hc; simp only [cOp, Option.bind_eq_some_iff] at hc
    obtain ⟨_, _, d, _, hc⟩ := hc
    cases d <;> simp at hc
  | next it s => rw [ho] at hc; cases s <;> simp [cOp] at hc
  | entry it => rw [ho] at hc; simp [cOp] at hc
  | typeAssert x xt t ok =>
    rw [ho] at hc
    cases ok
    · simp only [cOp, Option.bind_eq_some_iff] at hc
      obtain ⟨_, _, d, _, hc⟩ := hc
      cases d <;> simp at hc
    · simp [cOp] at hc
  | extract t i => rw [ho] at hc; simp [cOp] at hc
  | call c =>
    rw [ho] at hc
    obtain ⟨callee, args, ts⟩ := c
    simp only [cOp] at hc
    split at hc
    · rename_i b
      cases b <;> simp only [cBuiltin, cLen, cAppend, cCopy, cDelete, cMinmax, reduceCtorEq] at hc
      all_goals (split at hc)
      all_goals (simp only [Option.bind_eq_some_iff, Option.map_eq_some_iff, reduceCtorEq] at hc)
      · obtain ⟨_, _, _, _, _, _, _, _, _, _, _, _, hc⟩ := hc
        split at hc
        · split at hc
          · simp at hc
          · simp only [Option.bind_eq_some_iff] at hc
            obtain ⟨_, _, _, _, _, _, hc⟩ := hc
            split at hc <;> simp at hc
        · simp at hc
      · obtain ⟨_, _, _, _, _, _, _, _, hc⟩ := hc
        split at hc <;> simp at hc
      · obtain ⟨_, _, _, _, _, _, _, _, hc⟩ := hc
        split at hc <;> simp at hc
      · obtain ⟨_, _, _, _, _, _, hc⟩ := hc
        split at hc <;> simp at hc
      · obtain ⟨_, _, _, _, hc⟩ := hc
        simp at hc
      · obtain ⟨_, _, _, _, hc⟩ := hc
        simp at hc
    · rename_i g
      simp only [Option.bind_eq_some_iff] at hc
      obtain ⟨fn, hfn, hc⟩ := hc
      split at hc
      · simp at hc
      rename_i hng
      split at hc
      · rename_i hbody
        simp at hc
      split at hc
      case isFalse => simp at hc
      unfold cExtern at hc
      split at hc
      · simp only [Option.bind_eq_some_iff] at hc
        obtain ⟨_, _, _, _, hc⟩ := hc
        repeat' (split at hc)
        all_goals simp at hc
      · simp only [Option.bind_eq_some_iff] at hc
        obtain ⟨_, _, hc⟩ := hc
        split at hc <;> simp at hc
      · simp at hc
    · rename_i y hny
      simp only [Option.bind_eq_some_iff, Option.map_eq_some_iff] at hc
      obtain ⟨x', hx', ls, hls, hc⟩ := hc
      simp only [A1.callv.injEq] at hc
      obtain ⟨rfl, rfl⟩ := hc
      exact ⟨y, args, ts, rfl, hx', hls⟩
    · simp at hc
  | _ => rw [ho] at hc; simp [cOp] at hc

end
end Go.Ab
