/- All operations that write are sound. -/
import Derived.Test.YtpphdocfglmffaaGreatDoorAbS
set_option linter.unusedVariables false
set_option linter.unusedSimpArgs false
namespace Go.Ab
open Go.RowKit (Below)

section
variable {P : Program} {ι : Inj} {w : World} {h : Hp} {e : Env} {ρ : Operand → Value}

theorem e1_sound {o : Oper} {q : E1} {Q : V → Hp → Prop} (hR : Rel ι h w) (hρ : ∀ a b, cOpd a = some b → VR ι (b.val e) (ρ a)) (hf : ∀ f, ρ (.func f) = .func (.func f) #[] #[]) (hc : cOp P o.op = some (.e q)) (hv : (q.ev e).wp h Q) : GoesQ P ι h w (execOp ρ o) Q := by
  cases ho : o.op with
  | alloc t => rw [ho] at hc; simp [cOp] at hc
  | box t x => rw [ho] at hc; simp [cOp] at hc
  | buildSlice t n ps =>
    rw [ho] at hc; simp only [cOp, Option.bind_eq_some_iff] at hc
    obtain ⟨d, _, hc⟩ := hc
    cases d <;> simp [Option.bind_eq_some_iff] at hc
  | makeMap t r =>
    rw [ho] at hc; simp only [cOp, Option.bind_eq_some_iff] at hc
    obtain ⟨d, _, hc⟩ := hc
    cases d <;> simp at hc
    split at hc <;> simp at hc
  | makeSlice t l c =>
    rw [ho] at hc; simp only [cOp, Option.bind_eq_some_iff] at hc
    obtain ⟨d, _, hc⟩ := hc
    cases d <;> simp [Option.bind_eq_some_iff] at hc
  | convert a b x => exact e_mark hR hρ ho hc hv
  | move x => rw [ho] at hc; simp [cOp] at hc
  | assign x => rw [ho] at hc; simp [cOp] at hc
  | pick c a b => rw [ho] at hc; simp [cOp, Option.bind_eq_some_iff] at hc
  | build t ps =>
    rw [ho] at hc; simp only [cOp, Option.bind_eq_some_iff] at hc
    obtain ⟨d, _, _, _, hc⟩ := hc
    cases d <;> simp [Option.bind_eq_some_iff] at hc
  | load t a => rw [ho] at hc; simp [cOp, Option.bind_eq_some_iff] at hc
  | store t a x => exact e_store hR hρ ho hc hv
  | nilCheck x => rw [ho] at hc; simp [cOp] at hc
  | binOp bop t x y u =>
    rw [ho] at hc; simp only [cOp, Option.bind_eq_some_iff] at hc
    obtain ⟨_, _, _, _, hc⟩ := hc
    split at hc
    · split at hc <;> simp at hc
    · split at hc <;> simp at hc
    · simp at hc
  | unOp uop t x => rw [ho] at hc; simp [cOp] at hc
  | sliceToArrayPointer arr x =>
    rw [ho] at hc; simp only [cOp, Option.bind_eq_some_iff] at hc
    obtain ⟨_, _, d, _, hc⟩ := hc
    cases d <;> simp at hc
  | makeInterface t x =>
    rw [ho] at hc; simp only [cOp, Option.bind_eq_some_iff] at hc
    obtain ⟨_, _, d, _, hc⟩ := hc
    cases d <;> simp at hc
  | makeFunc f a b =>
    rw [ho] at hc; simp only [cOp] at hc
    split at hc <;> simp [Option.bind_eq_some_iff] at hc
  | slice t x lo hi mx =>
    rw [ho] at hc; simp only [cOp, Option.bind_eq_some_iff] at hc
    obtain ⟨_, _, _, _, _, _, _, _, d, _, hc⟩ := hc
    cases d <;> simp [Option.bind_eq_some_iff] at hc
    obtain ⟨d, _, hc⟩ := hc
    cases d <;> simp at hc
  | fieldAddr s x f =>
    rw [ho] at hc; simp only [cOp, Option.bind_eq_some_iff] at hc
    obtain ⟨_, _, d, _, hc⟩ := hc
    cases d <;> simp at hc
  | field t x f =>
    rw [ho] at hc; simp only [cOp, Option.bind_eq_some_iff] at hc
    obtain ⟨_, _, d, _, hc⟩ := hc
    cases d <;> simp [Option.bind_eq_some_iff] at hc
  | indexAddr t x i =>
    rw [ho] at hc; simp only [cOp, Option.bind_eq_some_iff] at hc
    obtain ⟨_, _, _, _, d, _, hc⟩ := hc
    cases d <;> simp at hc
  | index t x i =>
    rw [ho] at hc; simp only [cOp, Option.bind_eq_some_iff] at hc
    obtain ⟨_, _, _, _, d, _, hc⟩ := hc
    cases d <;> simp [Option.bind_eq_some_iff] at hc
  | lookup t m k ok =>
    rw [ho] at hc; simp only [cOp, Option.bind_eq_some_iff] at hc
    obtain ⟨_, _, _, _, d, _, hc⟩ := hc
    cases d <;> simp [Option.bind_eq_some_iff] at hc
  | mapUpdate t m k x => exact e_mset hR hρ (.inl ho) hc hv
  | insert t m k x => exact e_mset hR hρ (.inr ho) hc hv
  | range t x => exact e_range hR hρ ho hc hv
  | next it s =>
    cases s with
    | true => rw [ho] at hc; simp [cOp] at hc
    | false => exact e_next hR hρ ho hc hv
  | entry it => exact e_entry hR hρ ho hc hv
  | typeAssert x xt t ok =>
    rw [ho] at hc
    cases ok
    · simp only [cOp, Option.bind_eq_some_iff] at hc
      obtain ⟨_, _, d, _, hc⟩ := hc
      cases d <;> simp at hc
    · simp [cOp] at hc
  | extract t i => rw [ho] at hc; simp [cOp] at hc
  | call c =>
    have hc0 := hc
    rw [ho] at hc
    obtain ⟨callee, args, ts⟩ := c
    simp only [cOp] at hc
    split at hc
    · rename_i b
      cases b <;> simp only [cBuiltin, cLen, cMinmax, reduceCtorEq] at hc
      case append => exact e_append hR hρ ho hc hv
      case copy => exact e_copy hR hρ ho hc hv
      case delete => exact e_mdel hR hρ ho hc hv
      all_goals (split at hc)
      all_goals (simp only [Option.bind_eq_some_iff, Option.map_eq_some_iff, reduceCtorEq] at hc)
      · obtain ⟨_, _, _, _, _, _, hc⟩ := hc
        split at hc <;> simp at hc
      · obtain ⟨_, _, _, _, hc⟩ := hc
        simp at hc
      · obtain ⟨_, _, _, _, hc⟩ := hc
        simp at hc
    · simp only [Option.bind_eq_some_iff] at hc
      obtain ⟨fn, hfn, hc⟩ := hc
      split at hc
      · simp at hc
      rename_i hng
      split at hc
      · simp at hc
      rename_i hbody
      split at hc
      case isFalse => simp at hc
      rename_i hor
      exact e_mclone hR hρ hf ho hfn (by simpa using hng) (by simpa using hbody) hor hc hv
    · simp only [Option.bind_eq_some_iff, Option.map_eq_some_iff] at hc
      obtain ⟨_, _, _, _, hc⟩ := hc
      simp at hc
    · simp at hc
  | _ => rw [ho] at hc; simp [cOp] at hc

end
end Go.Ab
