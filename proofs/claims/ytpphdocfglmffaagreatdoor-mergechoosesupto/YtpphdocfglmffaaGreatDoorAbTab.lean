/- A table of abstract functions; closed calls. -/
import Derived.Test.YtpphdocfglmffaaGreatDoorAbZb
import Derived.Test.YtpphdocfglmffaaGreatDoorAbEv
set_option linter.unusedVariables false
set_option linter.unusedSimpArgs false
namespace Go.Ab
open Go.RowKit (Below)

def look : List (Nat × AFn) → Nat → Option AFn
  | [], _ => none
  | x :: r, f => match Nat.beq f x.1 with | true => some x.2 | false => look r f

def TabOk (P : Program) : List (Nat × AFn) → Prop
  | [] => True
  | x :: r => (∃ F, P.funcs[x.1]? = some F ∧ cFunc P F = some x.2) ∧ TabOk P r

theorem look_ok {P : Program} : ∀ {l : List (Nat × AFn)}, TabOk P l → ∀ f fn, look l f = some fn → ∃ F, P.funcs[f]? = some F ∧ cFunc P F = some fn
  | [], _, f, fn, h => by simp [look] at h
  | x :: r, hk, f, fn, h => by
    simp only [look] at h
    split at h
    · rename_i hb
      have : f = x.1 := Nat.eq_of_beq_eq_true hb
      subst this
      simp only [Option.some.injEq] at h; subst h
      exact hk.1
    · exact look_ok hk.2 f fn h

/-- nothing lies in the world yet -/
def Inj.nil : Inj := ⟨fun _ _ => none, fun _ => none⟩
def Hp.nil : Hp := ⟨fun _ => none, 0⟩

theorem Rel.nil (w : World) : Rel Inj.nil Hp.nil w where
  st := fun s g L h => by simp [Inj.nil] at h
  sep := fun s g L s' g' L' h => by simp [Inj.nil] at h
  ob := fun i c h => by simp [Inj.nil] at h
  obsep := fun i c j h => by simp [Inj.nil] at h
  kind := fun s g L i c h => by simp [Inj.nil] at h
  obj := fun i o h => by simp [Hp.nil] at h

theorem RO.nil (b : Nat) : RO Inj.nil Hp.nil b := ⟨fun s g L h => by simp [Inj.nil] at h, fun i c h => by simp [Inj.nil] at h⟩

theorem th_nil : (TH.hp ⟨.nil, 0⟩) = Hp.nil := by
  simp only [TH.hp, Hp.nil, Hp.mk.injEq, and_true]
  funext j; rfl

/-- a call without arguments that the evaluator carries through -/
theorem closed_calls {P : Program} {l : List (Nat × AFn)} (hk : TabOk P l) (hm : P.follows .mixedOrders = true) {n f : Nat} {v : V} (he : (evCall (look l) n f [] ⟨.nil, 0⟩).map (·.1) = some v) (w : World) :
    Calls P f #[] w fun e w' => ∃ c κ k, e = .returned c ∧ VR κ v c ∧ Rel κ k w' ∧ Ext Inj.nil Hp.nil w κ k w' := by
  simp only [Option.map_eq_some_iff] at he
  obtain ⟨⟨v', h'⟩, he, rfl⟩ := he
  have hwp := evCall_ok (A := ⟨look l, Orc.none⟩) n _ _ _ _ _ he (fun r k => r = .val v' ∧ k = h'.hp) ⟨rfl, rfl⟩
  rw [th_nil] at hwp
  have hs : Sound P (.call f []) Hp.nil _ := sound (look_ok hk) (OrcOk.none P) hm hwp
  refine Calls.mono (hs Inj.nil #[] w rfl (Rel.nil w)) ?_
  rintro e w' ⟨u, k, κ, c, ⟨hu, _⟩, rfl, hv, hR, hE⟩
  simp only [Rs.val.injEq] at hu; subst hu
  exact ⟨c, κ, k, rfl, hv, hR, hE⟩

end Go.Ab
