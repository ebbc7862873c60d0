/- An operation looks only at its temporaries; a larger heap is read alike. -/
import Derived.Test.YtpphdocfglmffaaGreatDoorAbT
set_option linter.unusedVariables false
set_option linter.unusedSimpArgs false
namespace Go.Ab

def Agree (e e' : Env) (ts : List Nat) : Prop := ∀ t ∈ ts, e t = e' t

theorem Agree.left {e e' : Env} {a b : List Nat} (h : Agree e e' (a ++ b)) : Agree e e' a := fun t ht => h t (List.mem_append_left _ ht)
theorem Agree.right {e e' : Env} {a b : List Nat} (h : Agree e e' (a ++ b)) : Agree e e' b := fun t ht => h t (List.mem_append_right _ ht)

theorem Opd.congr {e e' : Env} {x : Opd} (h : Agree e e' x.ts) : x.val e = x.val e' := by
  cases x with
  | tmp t => exact h t (by simp [Opd.ts])
  | const v => rfl
  | func f => rfl

theorem tsL_congr {e e' : Env} : ∀ {l : List Opd}, Agree e e' (tsL l) → l.map (Opd.val e) = l.map (Opd.val e')
  | [], _ => rfl
  | x :: r, h => by simp only [List.map_cons, Opd.congr h.left, tsL_congr h.right]

theorem fillAll_congr {e e' : Env} : ∀ {l : List (Nat × Nat × Opd)} {cs : List V}, Agree e e' (tsP l) → fillAll e cs l = fillAll e' cs l
  | [], _, _ => rfl
  | (off, sz, x) :: r, cs, h => by
    simp only [fillAll, Opd.congr (show Agree e e' x.ts from h.left)]
    split
    · exact fillAll_congr (Agree.right h)
    · rfl

theorem bnd_congr {e e' : Env} {x : Option Opd} {d top : Nat} (h : Agree e e' (tsO x)) : bnd e x d top = bnd e' x d top := by
  cases x with
  | none => rfl
  | some x => simp only [bnd, Opd.congr (show Agree e e' x.ts from h)]

theorem bnds_congr {e e' : Env} {n c : Nat} {lo hi mx : Option Opd} (h1 : Agree e e' (tsO lo)) (h2 : Agree e e' (tsO hi)) (h3 : Agree e e' (tsO mx)) : bnds e n c lo hi mx = bnds e' n c lo hi mx := by
  simp only [bnds, bnd_congr h1, bnd_congr h2, bnd_congr h3]

theorem P1.congr {e e' : Env} {q : P1} (h : Agree e e' q.ts) : q.ev e = q.ev e' := by
  cases q <;> simp only [P1.ts] at h <;> simp only [P1.ev]
  case mv x => rw [Opd.congr h]
  case sel c a b => rw [Opd.congr h.left, Opd.congr h.right.left, Opd.congr h.right.right]
  case build z ps => rw [fillAll_congr h]
  case bin op x y => rw [Opd.congr h.left, Opd.congr h.right]
  case eqk x y => rw [Opd.congr h.left, Opd.congr h.right]
  case eqAgg x y => rw [Opd.congr h.left, Opd.congr h.right]
  case un op x => rw [Opd.congr h]
  case conv k x => rw [Opd.congr h]
  case field x => rw [Opd.congr h]
  case extract x i => rw [Opd.congr h]
  case len str x => rw [Opd.congr h]
  case strIdx x y => rw [Opd.congr h.left, Opd.congr h.right]
  case arrIdx x y => rw [Opd.congr h.left, Opd.congr h.right]
  case idxS x y => rw [Opd.congr h.left, Opd.congr h.right]
  case idxA x y => rw [Opd.congr h.left, Opd.congr h.right]
  case fld off x => rw [Opd.congr h]
  case slcS x lo hi mx => rw [Opd.congr h.left]; simp only [bnds_congr h.right.left h.right.right.left h.right.right.right]
  case slcStr x lo hi => rw [Opd.congr h.left]; simp only [bnds_congr h.right.left h.right.right (show Agree e e' (tsO none) from fun t ht => by simp [tsO] at ht)]
  case slcA x lo hi mx => rw [Opd.congr h.left]; simp only [bnds_congr h.right.left h.right.right.left h.right.right.right]
  case s2ap n x => rw [Opd.congr h]
  case nilck x => rw [Opd.congr h]
  case tass t x => rw [Opd.congr h]
  case mkI t x => rw [Opd.congr h]
  case mkF f a b => rw [tsL_congr h.left, tsL_congr h.right]
  case minmax m x r => rw [Opd.congr h.left, tsL_congr h.right]

theorem R1.congr {e e' : Env} {H : Obs} {q : R1} (h : Agree e e' q.ts) : q.ev e H = q.ev e' H := by
  cases q <;> simp only [R1.ts] at h <;> simp only [R1.ev]
  case load x => rw [Opd.congr h]
  case look x k ok => rw [Opd.congr h.left, Opd.congr h.right]
  case mlen x => rw [Opd.congr h]
  case b2s x => rw [Opd.congr h]
  case bcmp x k => rw [Opd.congr h.left, Opd.congr h.right]
  case bidx x k => rw [Opd.congr h.left, Opd.congr h.right]

theorem N1.congr {e e' : Env} {q : N1} (h : Agree e e' q.ts) : q.ev e = q.ev e' := by
  cases q <;> simp only [N1.ts] at h <;> simp only [N1.ev]
  case box x => rw [Opd.congr h]
  case bslice ps => rw [fillAll_congr h]
  case mkslice l c => rw [Opd.congr h.left, Opd.congr h.right]
  case s2b x => rw [Opd.congr h]

theorem E1.congr {e e' : Env} {q : E1} (h : Agree e e' q.ts) : q.ev e = q.ev e' := by
  cases q <;> simp only [E1.ts] at h <;> simp only [E1.ev]
  case store x y => rw [Opd.congr h.left, Opd.congr h.right]
  case append x y => rw [Opd.congr h.left, Opd.congr h.right]
  case copy x y => rw [Opd.congr h.left, Opd.congr h.right]
  case mset x y z => rw [Opd.congr h.left, Opd.congr h.right.left, Opd.congr h.right.right]
  case mdel x y => rw [Opd.congr h.left, Opd.congr h.right]
  case range x => rw [Opd.congr h]
  case next x => rw [Opd.congr h]
  case entry x => rw [Opd.congr h]
  case mclone x => rw [Opd.congr h]
  case mark x => rw [Opd.congr h]

def Obs.le (H K : Obs) : Prop := ∀ s o, H s = some o → K s = some o

section
variable {H K : Obs} (hl : Obs.le H K)
include hl

theorem rdAt_mono {s g o n : Nat} {vs : List V} (h : rdAt H s g o n = some vs) : rdAt K s g o n = some vs := by
  unfold rdAt at h ⊢
  split at h
  · rename_i cells old dirty esz hs
    rw [hl _ _ hs]; exact h
  · simp at h

theorem rdVar_mono {s g o : Nat} {sz : Option Nat} {v : V} (h : rdVar H s g o sz = some v) : rdVar K s g o sz = some v := by
  unfold rdVar at h ⊢
  cases sz with
  | none =>
    simp only at h ⊢
    split at h
    · rename_i v' hv; rw [rdAt_mono hl hv]; exact h
    · simp at h
  | some n =>
    simp only [Option.map_eq_some_iff] at h ⊢
    obtain ⟨vs, hv, rfl⟩ := h
    exact ⟨vs, rdAt_mono hl hv, rfl⟩

theorem bytesOf_mono {x : V} {l : List UInt8} (h : bytesOf H x = some l) : bytesOf K x = some l := by
  unfold bytesOf at h ⊢
  split at h
  · exact h
  · exact h
  · simp only [Option.bind_eq_some_iff] at h ⊢
    obtain ⟨vs, hv, h⟩ := h
    exact ⟨vs, rdAt_mono hl hv, h⟩
  · simp at h

theorem entsOf_mono {x : V} {l : List MEnt} (h : entsOf H x = some l) : entsOf K x = some l := by
  unfold entsOf at h ⊢
  split at h
  · exact h
  · split at h
    · rename_i es clock hs
      rw [hl _ _ hs]; exact h
    · simp at h
  · simp at h

theorem R1.mono {e : Env} {q : R1} {v : V} (h : q.ev e H = some v) : q.ev e K = some v := by
  cases q <;> simp only [R1.ev] at h ⊢
  case load sz x =>
    split at h
    · exact rdVar_mono hl h
    · simp at h
  case look q z x k ok =>
    simp only [Option.bind_eq_some_iff] at h ⊢
    obtain ⟨es, hes, h⟩ := h
    exact ⟨es, entsOf_mono hl hes, h⟩
  case mlen x =>
    simp only [Option.map_eq_some_iff] at h ⊢
    obtain ⟨es, hes, h⟩ := h
    exact ⟨es, entsOf_mono hl hes, h⟩
  case b2s x =>
    split at h
    · simp at h
    · simp only [Option.map_eq_some_iff] at h ⊢
      obtain ⟨es, hes, h⟩ := h
      exact ⟨es, bytesOf_mono hl hes, h⟩
  case bcmp a b =>
    simp only [Option.bind_eq_some_iff, Option.map_eq_some_iff] at h ⊢
    obtain ⟨x, hx, y, hy, h⟩ := h
    exact ⟨x, bytesOf_mono hl hx, y, bytesOf_mono hl hy, h⟩
  case bidx a c =>
    simp only [Option.bind_eq_some_iff] at h ⊢
    obtain ⟨x, hx, h⟩ := h
    exact ⟨x, bytesOf_mono hl hx, h⟩
end


theorem wanted_congr {e e' : Env} {g : Option (Nat × Bool)} (h : ∀ d w, g = some (d, w) → e d = e' d) : wanted e g = wanted e' g := by
  cases g with
  | none => rfl
  | some g => obtain ⟨d, w⟩ := g; simp only [wanted, h d w rfl]

end Go.Ab
