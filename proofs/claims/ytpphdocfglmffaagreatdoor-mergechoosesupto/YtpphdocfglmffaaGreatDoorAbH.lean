/- The pure operations: whatever the abstract machine answers, the model answers. -/
import Derived.Test.YtpphdocfglmffaaGreatDoorAbG
set_option linter.unusedVariables false
set_option linter.unusedSimpArgs false
namespace Go.Ab

section
variable {P : Program} {ι : Inj} {w : World} {e : Env} {ρ : Operand → Value}

/-- what an operation of the model comes to -/
def Pays (P : Program) (ι : Inj) (w : World) (s : Sem Value) (v : V) : Prop := ∃ c, s.run P w = .ok c w ∧ VR ι v c

theorem un_run {op : UnOp} {x v : V} {a : Value} (hx : VR ι x a) (h : un op x = some v) : Pays P ι w (Op.unary op a) v := by
  unfold un at h
  split at h
  · rename_i k n
    simp only [VR] at hx; subst hx
    cases op <;> simp at h
    · subst h; exact ⟨.int k (k.wrap (0 - n)), by simp [Op.unary, Op.intArith], by simp [VR]⟩
    · obtain ⟨m, hm, rfl⟩ := h
      exact ⟨_, by simp only [Op.unary]; exact bitI_run hm, rfl⟩
  · simp only [VR] at hx; subst hx
    cases op <;> simp at h
    subst h; exact ⟨_, rfl, rfl⟩
  · simp at h

theorem part_run {t : TypeId} {sz : Option Nat} {off : Nat} {cs : List V} {ds : Array Value} {v : V} (ht : shOf P t = some sz) (hr : VRs ι cs ds.toList) (h : cut cs off sz = some v) : Pays P ι w (part t ds off) v := by
  unfold shOf at ht
  simp only [Option.bind_eq_some_iff] at ht
  obtain ⟨d, hd, ht⟩ := ht
  have agg : ∀ n, szOf P t = some n → cut cs off (some n) = some v → (isAgg t).run P w = .ok true w → Pays P ι w (part t ds off) v := by
    intro n hn hc ha
    simp only [cut] at hc
    split at hc
    · simp at hc; subst hc
      refine ⟨.agg (ds.extract off (off + n)), by unfold part; simp [ha, run_sizeOf hn], ds.extract off (off + n), rfl, ?_⟩
      have : (ds.extract off (off + n)).toList = (ds.toList.drop off).take n := by simp [List.extract_eq_take_drop]
      rw [this]
      exact (hr.drop off).take n
    · simp at hc
  cases d with
  | struct fs => simp at ht; obtain ⟨n, hn, rfl⟩ := ht; exact agg n hn h (by unfold isAgg; simp [run_underlying' hd])
  | array m el => simp at ht; obtain ⟨n, hn, rfl⟩ := ht; exact agg n hn h (by unfold isAgg; simp [run_underlying' hd])
  | _ =>
    simp at ht; subst ht
    simp only [cut] at h
    obtain ⟨c, hc, hv⟩ := hr.get h
    have hc' : ds[off]? = some c := by simpa using hc
    exact ⟨c, by unfold part isAgg; simp [run_underlying' hd, hc'], hv⟩

theorem byteAt_run {b : ByteArray} {i : Int} {v : V} (h : byteAt b.data.toList i = some v) : ∃ u : UInt8, 0 ≤ i ∧ b[i.toNat]? = some u ∧ v = .int .u8 u.toNat := by
  unfold byteAt at h
  split at h
  · simp only [Option.map_eq_some_iff] at h
    obtain ⟨u, hu, rfl⟩ := h
    refine ⟨u, by assumption, ?_, rfl⟩
    rw [Array.getElem?_toList] at hu
    obtain ⟨hlt, he⟩ := Array.getElem?_eq_some_iff.1 hu
    have : i.toNat < b.size := hlt
    rw [getElem?_pos b i.toNat this]
    exact congrArg some he
  · simp at h

theorem bnd_run {x : Option Opd} {y : Option Operand} {dflt top r : Nat} (hρ : ∀ a b, cOpd a = some b → VR ι (b.val e) (ρ a)) (hc : optO cOpd y = some x) (h : bnd e x dflt top = some r) :
    (y = none ∧ r = dflt) ∨ ∃ k i, y.map ρ = some (.int k i) ∧ 0 ≤ i ∧ i ≤ (top : Int) ∧ r = i.toNat := by
  cases y with
  | none => simp [optO] at hc; subst hc; simp [bnd] at h; exact .inl ⟨rfl, h.symm⟩
  | some a =>
    simp only [optO, Option.map_eq_some_iff] at hc
    obtain ⟨b, hb, rfl⟩ := hc
    simp only [bnd, Option.bind_eq_some_iff] at h
    obtain ⟨i, hi, h⟩ := h
    obtain ⟨k, hv, hk⟩ := asI_rel (hρ a b hb) hi
    split at h
    · rename_i hh; simp at h; exact .inr ⟨k, i, by simp [hk], hh.1, hh.2, h.symm⟩
    · simp at h

theorem sliceBound_ok {k : IntKind} {i : Int} {y : Nat} {code : BoundsCode} (h0 : 0 ≤ i) (h1 : i ≤ (y : Int)) : (Instr.sliceBound (.int k i) y code).run P w = .ok i.toNat w := by
  simp [Instr.sliceBound, asIntOf, h0, h1]

theorem bnds_run {len cap : Nat} {lo hi mx : Option Opd} {lo' hi' mx' : Option Operand} {r : Nat × Nat × Nat} (hρ : ∀ a b, cOpd a = some b → VR ι (b.val e) (ρ a))
    (h1 : optO cOpd lo' = some lo) (h2 : optO cOpd hi' = some hi) (h3 : optO cOpd mx' = some mx) (h : bnds e len cap lo hi mx = some r) (sl : Bool) :
    ∃ cut : Nat, (∀ cap' : Nat, cap ≤ cap' → ∃ m', (Instr.sliceBounds sl len cap' (lo'.map ρ) (hi'.map ρ) (mx'.map ρ)).run P w = .ok (r.1, r.2.1, m') w ∧ (mx'.isSome = true → m' = r.2.2) ∧ (mx'.isSome = false → m' = cap')) ∧ r.1 ≤ r.2.1 ∧ (len ≤ cap → r.2.1 ≤ r.2.2) ∧ r.2.2 ≤ cap ∧ (mx'.isSome = false → r.2.2 = cap) ∧ cut = 0 := by
  unfold bnds at h
  simp only [Option.bind_eq_some_iff] at h
  obtain ⟨m, hm, hh, hhi, l, hl, hr⟩ := h
  simp at hr; subst hr
  refine ⟨0, fun cap' hcap => ?_, ?_, ?_, ?_, ?_, rfl⟩
  · rcases bnd_run hρ h3 hm with ⟨rfl, rfl⟩ | ⟨k, i, hk, i0, i1, rfl⟩
    · have hmx : mx = none := by simpa [optO] using h3.symm
      subst hmx
      simp only [Option.isSome_none, Bool.false_and, Bool.false_eq_true, if_false] at hhi
      refine ⟨cap', ?_, by simp, by simp⟩
      rcases bnd_run hρ h2 hhi with ⟨rfl, rfl⟩ | ⟨k, i, hk, i0, i1, rfl⟩
      · rcases bnd_run hρ h1 hl with ⟨rfl, rfl⟩ | ⟨k, i, hk, i0, i1, rfl⟩
        · simp [Instr.sliceBounds]
        · simp [Instr.sliceBounds, hk, sliceBound_ok i0 i1]
      · have i1' : i ≤ (cap' : Int) := by omega
        rcases bnd_run hρ h1 hl with ⟨rfl, rfl⟩ | ⟨k', j, hk', j0, j1, rfl⟩
        · cases sl <;> simp [Instr.sliceBounds, hk, sliceBound_ok i0 i1']
        · cases sl <;> simp [Instr.sliceBounds, hk, hk', sliceBound_ok i0 i1', sliceBound_ok j0 j1]
    · have hmx : mx'.isSome = true := by cases mx' <;> simp_all
      have hmx2 : mx.isSome = true := by cases mx' <;> simp_all [optO]; obtain ⟨x, _, rfl⟩ := h3; rfl
      have i1' : i ≤ (cap' : Int) := by omega
      refine ⟨i.toNat, ?_, fun _ => rfl, by simp [hmx]⟩
      simp only [hmx2, Bool.true_and] at hhi
      cases hi' with
      | none => simp [optO] at h2; subst h2; simp at hhi
      | some y =>
        have hhi2 : hi.isNone = false := by simp [optO] at h2; obtain ⟨x, _, rfl⟩ := h2; rfl
        simp only [hhi2, Bool.false_eq_true, if_false] at hhi
        rcases bnd_run hρ h2 hhi with ⟨hn, _⟩ | ⟨k', j, hk', j0, j1, rfl⟩
        · simp at hn
        · cases mx' with
          | none => simp at hmx
          | some z =>
            simp only [Option.map_some, Option.some.injEq] at hk hk'
            rcases bnd_run hρ h1 hl with ⟨rfl, rfl⟩ | ⟨k2, j2, hk2, j20, j21, rfl⟩
            · cases sl <;> simp [Instr.sliceBounds, hk, hk', sliceBound_ok i0 i1', sliceBound_ok j0 j1]
            · cases sl <;> simp [Instr.sliceBounds, hk, hk', hk2, sliceBound_ok i0 i1', sliceBound_ok j0 j1, sliceBound_ok j20 j21]
  · rcases bnd_run hρ h1 hl with ⟨_, rfl⟩ | ⟨k, i, hk, i0, i1, rfl⟩
    · simp
    · simp; omega
  · intro hlc
    rcases bnd_run hρ h3 hm with ⟨rfl, rfl⟩ | ⟨k, i, hk, i0, i1, rfl⟩
    · have hmx : mx = none := by simpa [optO] using h3.symm
      subst hmx
      simp only [Option.isSome_none, Bool.false_and, Bool.false_eq_true, if_false] at hhi
      rcases bnd_run hρ h2 hhi with ⟨_, rfl⟩ | ⟨k, i, hk, i0, i1, rfl⟩
      · exact hlc
      · simp; omega
    · have hmx : mx'.isSome = true := by cases mx' <;> simp_all
      have hmx2 : mx.isSome = true := by cases mx' <;> simp_all [optO]; obtain ⟨x, _, rfl⟩ := h3; rfl
      simp only [hmx2, Bool.true_and] at hhi
      cases hi' with
      | none => simp [optO] at h2; subst h2; simp at hhi
      | some y =>
        have hhi2 : hi.isNone = false := by simp [optO] at h2; obtain ⟨x, _, rfl⟩ := h2; rfl
        simp only [hhi2, Bool.false_eq_true, if_false] at hhi
        rcases bnd_run hρ h2 hhi with ⟨hn, _⟩ | ⟨k', j, hk', j0, j1, rfl⟩
        · simp at hn
        · simp; omega
  · rcases bnd_run hρ h3 hm with ⟨_, rfl⟩ | ⟨k, i, hk, i0, i1, rfl⟩
    · simp
    · simp; omega
  · intro hn
    rcases bnd_run hρ h3 hm with ⟨_, rfl⟩ | ⟨k, i, hk, i0, i1, rfl⟩
    · rfl
    · cases mx' <;> simp_all
end
end Go.Ab
