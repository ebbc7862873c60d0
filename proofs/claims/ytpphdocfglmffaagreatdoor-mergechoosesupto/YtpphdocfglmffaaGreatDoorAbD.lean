/- Values of the abstract machine and of the model: when the one stands for the other; the same of heaps and worlds. -/
import Derived.Test.YtpphdocfglmffaaGreatDoorAbC
import Derived.Below
import Derived.Laws.Cells
import Derived.Laws.World
set_option linter.unusedVariables false
set_option linter.unusedSimpArgs false
namespace Go.Ab
open Go.RowKit (Below)

/-- where a storage lies, as one generation sees it -/
structure Loc where
  cb : Nat
  coff : Nat
  base : Nat
  size : Nat
  csz : Nat
  esz : Option Nat
  ro : Nat

structure Inj where
  st : Nat → Nat → Option Loc
  ob : Nat → Option Nat

structure Inj.le (a b : Inj) : Prop where
  st : ∀ s g L, a.st s g = some L → b.st s g = some L
  ob : ∀ i c, a.ob i = some c → b.ob i = some c

theorem Inj.le.refl (a : Inj) : a.le a := ⟨fun _ _ _ h => h, fun _ _ h => h⟩
theorem Inj.le.trans {a b c : Inj} (h : a.le b) (k : b.le c) : a.le c :=
  ⟨fun s g L x => k.st s g L (h.st s g L x), fun i j x => k.ob i j (h.ob i j x)⟩

mutual
def VR (ι : Inj) : V → Value → Prop
  | .bool b, c => c = .bool b
  | .int k n, c => c = .int k n
  | .str s, c => ∃ b : ByteArray, c = .string b ∧ b.data.toList = s
  | .nptr, c => c = .pointer none
  | .ptr s g o, c => ∃ L, ι.st s g = some L ∧ L.base ≤ o ∧ c = .pointer (some ⟨L.cb, L.coff + (o - L.base), none⟩)
  | .nslc, c => c = .slice none 0 0
  | .slc s g o n cap e, c => ∃ A cap', c = .slice (some A) n cap' ∧ n ≤ cap ∧
      ((cap = 0 ∧ cap' = 0) ∨ (∃ L, ι.st s g = some L ∧ L.base ≤ o ∧ A = ⟨L.cb, L.coff + (o - L.base), none⟩ ∧
        (cap' = cap ∨ (cap ≤ cap' ∧ L.esz = some e ∧ o + cap * e = L.size ∧ L.coff + (o - L.base) + cap' * e ≤ L.csz))))
  | .nmap, c => c = .map none
  | .map r, c => ∃ d, ι.ob r = some d ∧ c = .map (some d)
  | .fn f xs ys, c => ∃ as bs, c = .func f as bs ∧ VRs ι xs as.toList ∧ VRs ι ys bs.toList
  | .nfn, c => c = .nilFunc
  | .ifc t v, c => ∃ d, c = .iface t d ∧ VR ι v d
  | .nifc, c => c = .nilIface
  | .agg cs, c => ∃ ds, c = .agg ds ∧ VRs ι cs ds.toList
  | .tup vs, c => ∃ ds, c = .tuple ds ∧ VRs ι vs ds.toList
  | .it i, c => ∃ d, ι.ob i = some d ∧ c = .pointer (some ⟨d, 0, none⟩)
def VRs (ι : Inj) : List V → List Value → Prop
  | [], ds => ds = []
  | v :: vs, ds => ∃ d r, ds = d :: r ∧ VR ι v d ∧ VRs ι vs r
end

mutual
theorem VR.mono {ι κ : Inj} (h : ι.le κ) : ∀ (v : V) (c : Value), VR ι v c → VR κ v c
  | .bool _, _, r => r
  | .int _ _, _, r => r
  | .str _, _, r => r
  | .nptr, _, r => r
  | .ptr .., _, ⟨L, a, b, d⟩ => ⟨L, h.st _ _ _ a, b, d⟩
  | .nslc, _, r => r
  | .slc .., _, ⟨A, c, a, b, d⟩ => ⟨A, c, a, b, d.imp id fun ⟨L, p, q⟩ => ⟨L, h.st _ _ _ p, q⟩⟩
  | .nmap, _, r => r
  | .map _, _, ⟨d, a, b⟩ => ⟨d, h.ob _ _ a, b⟩
  | .fn _ xs ys, _, ⟨as, bs, a, b, c⟩ => ⟨as, bs, a, VRs.mono h xs _ b, VRs.mono h ys _ c⟩
  | .nfn, _, r => r
  | .ifc _ v, _, ⟨d, a, b⟩ => ⟨d, a, VR.mono h v _ b⟩
  | .nifc, _, r => r
  | .agg cs, _, ⟨ds, a, b⟩ => ⟨ds, a, VRs.mono h cs _ b⟩
  | .tup cs, _, ⟨ds, a, b⟩ => ⟨ds, a, VRs.mono h cs _ b⟩
  | .it _, _, ⟨d, a, b⟩ => ⟨d, h.ob _ _ a, b⟩
theorem VRs.mono {ι κ : Inj} (h : ι.le κ) : ∀ (vs : List V) (cs : List Value), VRs ι vs cs → VRs κ vs cs
  | [], _, r => r
  | v :: vs, _, ⟨d, r, a, b, c⟩ => ⟨d, r, a, VR.mono h v _ b, VRs.mono h vs _ c⟩
end

theorem VRs.length {ι : Inj} : ∀ {vs : List V} {cs : List Value}, VRs ι vs cs → vs.length = cs.length
  | [], _, h => by simp [VRs] at h; simp [h]
  | v :: vs, _, ⟨d, r, a, b, c⟩ => by subst a; simp [VRs.length c]

theorem VRs.get {ι : Inj} : ∀ {vs : List V} {cs : List Value}, VRs ι vs cs → ∀ {i : Nat} {v : V}, vs[i]? = some v → ∃ c, cs[i]? = some c ∧ VR ι v c
  | [], _, _, i, v, h => by simp at h
  | u :: us, _, ⟨d, r, a, b, c⟩, i, v, h => by
    subst a
    cases i with
    | zero => simp at h; subst h; exact ⟨d, by simp, b⟩
    | succ i => simp at h; simpa using VRs.get c h

theorem VRs.mk {ι : Inj} : ∀ {vs : List V} {cs : List Value}, vs.length = cs.length → (∀ (i : Nat) (v : V) (c : Value), vs[i]? = some v → cs[i]? = some c → VR ι v c) → VRs ι vs cs
  | [], [], _, _ => rfl
  | v :: vs, c :: cs, hl, h => ⟨c, cs, rfl, h 0 v c (by simp) (by simp), VRs.mk (by simpa using hl) fun i a b ha hb => h (i + 1) a b (by simpa using ha) (by simpa using hb)⟩
  | [], _ :: _, hl, _ => by simp at hl
  | _ :: _, [], hl, _ => by simp at hl

theorem VRs.append {ι : Inj} : ∀ {vs us : List V} {cs ds : List Value}, VRs ι vs cs → VRs ι us ds → VRs ι (vs ++ us) (cs ++ ds)
  | [], _, _, _, h, k => by simp [VRs] at h; subst h; simpa using k
  | v :: vs, us, _, ds, ⟨d, r, a, b, c⟩, k => by subst a; exact ⟨d, r ++ ds, rfl, b, VRs.append c k⟩

theorem VRs.drop {ι : Inj} : ∀ {vs : List V} {cs : List Value}, VRs ι vs cs → ∀ n, VRs ι (vs.drop n) (cs.drop n)
  | _, _, h, 0 => by simpa using h
  | [], _, h, n + 1 => by simp [VRs] at h; subst h; simp [VRs]
  | v :: vs, _, ⟨d, r, a, b, c⟩, n + 1 => by subst a; simpa using VRs.drop c n

theorem VRs.take {ι : Inj} : ∀ {vs : List V} {cs : List Value}, VRs ι vs cs → ∀ n, VRs ι (vs.take n) (cs.take n)
  | _, _, _, 0 => by simp [VRs]
  | [], _, h, n + 1 => by simp [VRs] at h; subst h; simp [VRs]
  | v :: vs, _, ⟨d, r, a, b, c⟩, n + 1 => by subst a; simpa using ⟨d, _, rfl, b, VRs.take c n⟩

/-- the cells of a value -/
theorem VR.cells {ι : Inj} {v : V} {c : Value} (h : VR ι v c) : VRs ι v.cells c.cells.toList := by
  cases v <;> simp only [VR] at h
  case agg cs => obtain ⟨ds, rfl, h⟩ := h; exact h
  all_goals
    have key : c.cells = #[c] := by
      first
        | (subst h; rfl)
        | (obtain ⟨_, rfl, _⟩ := h; rfl)
        | (obtain ⟨_, _, rfl⟩ := h; rfl)
        | (obtain ⟨_, _, _, rfl⟩ := h; rfl)
        | (obtain ⟨_, _, rfl, _⟩ := h; rfl)
        | (obtain ⟨_, _, _, _, _, rfl, _⟩ := h; rfl)
    rw [key]
    exact ⟨c, [], rfl, by simpa only [VR] using h, rfl⟩

theorem allO_get {α β : Type} {f : α → Option β} : ∀ {l : List α} {r : List β}, allO f l = some r → l.length = r.length ∧ ∀ (i : Nat) (a : α) (b : β), l[i]? = some a → r[i]? = some b → f a = some b
  | [], r, h => by simp [allO] at h; subst h; simp
  | a :: l, r, h => by
    simp only [allO, Option.bind_eq_some_iff, Option.map_eq_some_iff] at h
    obtain ⟨b, hb, s, hs, rfl⟩ := h
    obtain ⟨h1, h2⟩ := allO_get hs
    refine ⟨by simp [h1], fun i x y hx hy => ?_⟩
    cases i with
    | zero => simp at hx hy; subst hx; subst hy; exact hb
    | succ i => simp at hx hy; exact h2 i x y hx hy

theorem leafV_rel {ι : Inj} {c : Value} {v : V} (h : leafV c = some v) : VR ι v c := by
  unfold leafV at h
  split at h <;> first | (simp at h; subst h; simp [VR]) | (simp at h)

theorem constV_rel {ι : Inj} {c : Value} {v : V} (h : constV c = some v) : VR ι v c := by
  unfold constV at h
  split at h
  · rename_i cs
    simp only [Option.map_eq_some_iff] at h
    obtain ⟨l, hl, rfl⟩ := h
    obtain ⟨h1, h2⟩ := allO_get hl
    exact ⟨cs, rfl, VRs.mk h1.symm fun i a b ha hb => leafV_rel (h2 i b a hb ha)⟩
  · exact leafV_rel h

/-- the slots of a frame -/
def ER (ι : Inj) (e : Env) (ts : Array Value) : Prop := ∀ t, VR ι (e t) (ts.getD t undef)

theorem ER.mono {ι κ : Inj} (h : ι.le κ) {e : Env} {ts : Array Value} (r : ER ι e ts) : ER κ e ts := fun t => VR.mono h _ _ (r t)

theorem und_rel {ι : Inj} : VR ι und undef := ⟨#[], rfl, rfl⟩

theorem ER.put {ι : Inj} {e : Env} {ts : Array Value} (r : ER ι e ts) {d : Option Nat} {nt : Nat} (hd : d.any (fun t => decide (nt ≤ t)) = false) (hs : ts.size = nt) {v : V} {c : Value} (h : VR ι v c) :
    ER ι (e.put d v) (match d with | some t => ts.setIfInBounds t c | none => ts) := by
  cases d with
  | none => exact r
  | some t =>
    simp at hd
    intro u
    simp only [Env.put, Env.upd]
    by_cases hu : u = t
    · subst hu
      have hlt : u < ts.size := by omega
      simp [Array.getD, hlt, h]
    · have := r u
      simp only [if_neg hu]
      rw [Array.getD_eq_getD_getElem?] at this ⊢
      rwa [Array.getElem?_setIfInBounds_ne (by omega)]

theorem opd_rel {ι : Inj} {e : Env} {a : Act} (r : ER ι e a.tmps) {x : Operand} {y : Opd} (h : cOpd x = some y) : VR ι (y.val e) (a.eval x) := by
  cases x with
  | tmp t => simp [cOpd] at h; subst h; exact r t
  | const c => simp [cOpd] at h; obtain ⟨v, hv, rfl⟩ := h; exact constV_rel hv
  | global g => simp [cOpd] at h
  | func f => simp [cOpd] at h; subst h; exact ⟨#[], #[], rfl, rfl, rfl⟩

end Go.Ab
