/- The abstract machine is sound: what holds of every ending of abstract code holds of the program's. -/
import Derived.Test.YtpphdocfglmffaaGreatDoorAbV
import Derived.Orders
set_option linter.unusedVariables false
set_option linter.unusedSimpArgs false
namespace Go.Ab
open Go.RowKit (Below)

section
variable {P : Program} {ι : Inj} {w : World} {h : Hp} {e : Env}

theorem put_size (a : Act) (d : Option Tmp) (c : Value) : (a.put d c).tmps.size = a.tmps.size := by cases d <;> simp [Act.put]
theorem put_defers (a : Act) (d : Option Tmp) (c : Value) : (a.put d c).defers = a.defers := by cases d <;> rfl

theorem er_put {a : Act} (r : ER ι e a.tmps) {d : Option Nat} {nt : Nat} (hd : d.any (fun t => decide (nt ≤ t)) = false) (hs : nt ≤ a.tmps.size) {v : V} {c : Value} (h : VR ι v c) : ER ι (e.put d v) (a.put d c).tmps := by
  have hd' : d.any (fun t => decide (a.tmps.size ≤ t)) = false := by
    cases d with
    | none => rfl
    | some t => simp at hd ⊢; omega
  have := r.put hd' rfl h
  cases d <;> exact this

theorem bool_of {v : V} {b : Bool} (h : VR ι v (.bool b)) : v = .bool b := by
  cases v with
  | bool c => simp only [VR] at h; cases h; rfl
  | ptr s g o => obtain ⟨_, _, _, h⟩ := h; cases h
  | slc s g o n c z => obtain ⟨_, _, h, _, _⟩ := h; cases h
  | fn f x y => obtain ⟨_, _, h, _⟩ := h; cases h
  | str s => obtain ⟨_, h, _⟩ := h; cases h
  | map r => obtain ⟨_, _, h⟩ := h; cases h
  | ifc t v => obtain ⟨_, h, _⟩ := h; cases h
  | it i => obtain ⟨_, _, h⟩ := h; cases h
  | agg cs => obtain ⟨_, h, _⟩ := h; cases h
  | tup cs => obtain ⟨_, h, _⟩ := h; cases h
  | _ => simp only [VR] at h; cases h

theorem wanted_rel {ops : Array Oper} {o : Oper} {g : Option (Nat × Bool)} {a : Act} (r : ER ι e a.tmps) (hg : cGuard ops o.guard = some g) : Region.wanted o (yielded ops a.tmps) = wanted e g := by
  unfold Region.wanted
  cases ho : o.guard with
  | none => rw [ho] at hg; simp [cGuard] at hg; subst hg; rfl
  | some x =>
    obtain ⟨j, want⟩ := x
    rw [ho] at hg
    simp only [cGuard, Option.map_eq_some_iff] at hg
    obtain ⟨d, hd, rfl⟩ := hg
    simp only [wanted, yielded, hd, Option.bind_some]
    have hr := r d
    rw [Array.getD_eq_getD_getElem?] at hr
    cases ht : a.tmps[d]? with
    | none =>
      rw [ht] at hr
      simp only [Option.getD_none] at hr
      cases hv : e d <;> simp
      rw [hv] at hr; simp [VR] at hr; cases hr
    | some c =>
      rw [ht] at hr
      simp only [Option.getD_some] at hr
      by_cases hb : ∃ b, c = .bool b
      · obtain ⟨b, rfl⟩ := hb
        rw [bool_of hr]
        cases b <;> cases want <;> rfl
      · have h1 : ∀ b, e d ≠ .bool b := by
          intro b hv
          rw [hv] at hr
          exact hb ⟨b, hr⟩
        cases c <;> simp <;> first | (cases hv : e d <;> simp; exact absurd hv (h1 _)) | exact absurd ⟨_, rfl⟩ hb

/-- an ending, in the model -/
def exOf : Ex → Exit
  | .nrm => .normal
  | .exit i => .exit i
  | .ret => .ret

/-- the operations of a region, as they stand -/
def Matches (P : Program) (nt : Nat) (ops : Array Oper) : List Nat → List AOp → Prop
  | [], [] => True
  | i :: is, x :: l => (∃ o, ops[i]? = some o ∧ cOper P nt ops o = some x) ∧ Matches P nt ops is l
  | _, _ => False

theorem matches_of {nt : Nat} {ops : Array Oper} : ∀ (l : List Oper) (k : Nat) (ls : List AOp), (∀ j, l[j]? = ops[k + j]?) → allO (cOper P nt ops) l = some ls → Matches P nt ops (List.range' k l.length) ls
  | [], k, ls, _, h => by simp [allO] at h; subst h; simp [Matches]
  | o :: l, k, ls, hl, h => by
    simp only [allO, Option.bind_eq_some_iff, Option.map_eq_some_iff] at h
    obtain ⟨x, hx, r, hr, rfl⟩ := h
    rw [List.length_cons, List.range'_succ]
    exact ⟨⟨o, by simpa using (hl 0).symm, hx⟩, matches_of l (k + 1) r (fun j => by have := hl (j + 1); simpa [Nat.add_assoc, Nat.add_comm 1 j] using this) hr⟩

theorem cOper_inv {nt : Nat} {ops : Array Oper} {o : Oper} {x : AOp} (h : cOper P nt ops o = some x) : x.dst = o.dst ∧ o.dst.any (fun d => decide (nt ≤ d)) = false ∧ cGuard ops o.guard = some x.guard ∧ x.op = (cOp P o.op).getD .bad := by
  unfold cOper at h
  split at h
  · simp at h
  · rename_i hd
    simp only [Option.map_eq_some_iff] at h
    obtain ⟨g, hg, rfl⟩ := h
    exact ⟨rfl, by simpa using hd, hg, rfl⟩

theorem cOper_op {nt : Nat} {ops : Array Oper} {o : Oper} {x : AOp} (h : cOper P nt ops o = some x) (hb : x.op ≠ .bad) : cOp P o.op = some x.op := by
  have := (cOper_inv h).2.2.2
  cases hc : cOp P o.op with
  | none => rw [hc] at this; exact absurd this hb
  | some q => rw [hc] at this; simp at this; rw [this]

theorem not_bad {A : Tb} {q : A1} {R : Rs → Hp → Prop} (k : WP A (.op q e) h R) : q ≠ .bad := by
  rintro rfl
  cases k

/- DRAWN REGIONS -/

theorem within_testBit {a b i : Nat} (h : within a b = true) (hi : a.testBit i = true) : b.testBit i = true := by
  simp only [within, beq_iff_eq] at h
  rw [← h] at hi
  simp at hi
  exact hi.2

theorem within_of {a b : Nat} (h : ∀ i, a.testBit i = true → b.testBit i = true) : within a b = true := by
  simp only [within, beq_iff_eq]
  apply Nat.eq_of_testBit_eq
  intro i
  rw [Nat.testBit_and]
  cases ha : a.testBit i
  · rfl
  · simp [h i ha]

theorem bitOr_testBit {bits : List Nat} {b : Nat} : ∀ (l : List Nat) (s : Nat), (l.foldl (fun s e => s ||| (2 ^ e ||| bits.getD e 0)) s).testBit b = true → s.testBit b = true ∨ ∃ e ∈ l, b = e ∨ (bits.getD e 0).testBit b = true
  | [], s, h => .inl h
  | e :: l, s, h => by
    rcases bitOr_testBit l _ h with h | ⟨x, hx, h⟩
    · rw [Nat.testBit_or, Nat.testBit_or] at h
      simp only [Bool.or_eq_true] at h
      rcases h with h | h | h
      · exact .inl h
      · refine .inr ⟨e, by simp, .inl ?_⟩
        rw [Nat.testBit_two_pow] at h
        simpa using Eq.symm (by simpa using h)
      · exact .inr ⟨e, by simp, .inr h⟩
    · exact .inr ⟨x, by simp [hx], h⟩

/-- what is known of a drawn region beforehand -/
structure Static (P : Program) (nt : Nat) (ops : Array Oper) (ls : List AOp) (bits : List Nat) : Prop where
  len : ls.length = ops.size
  at' : ∀ i, i < ls.length → ∃ o, ops[i]? = some o ∧ cOper P nt ops o = some (ls.getD i default)
  low : ∀ j o, ops[j]? = some o → ∀ x ∈ o.after, Region.binds .any x = true → x.on < j
  cl : ∀ j o, ops[j]? = some o → ∀ b, (bits.getD j 0).testBit b = true → ∃ x ∈ o.after, Region.binds .any x = true ∧ (b = x.on ∨ (bits.getD x.on 0).testBit b = true)
  wr : ∀ j, j < ls.length → ∀ t ∈ (ls.getD j default).looks, ∀ i, i < ls.length → t ∈ (ls.getD i default).dsts → (bits.getD j 0).testBit i = true ∨ early ls bits i = false

theorem static_of {nt : Nat} {ops : Array Oper} {ls : List AOp} {bits : List Nat} (h1 : allO (cOper P nt ops) ops.toList = some ls) (h2 : pairsOk ls ops.toList bits = true) : Static P nt ops ls bits := by
  obtain ⟨hlen, hget⟩ := allO_get h1
  simp only [Array.length_toList] at hlen
  have hp : ∀ j, j < ls.length → ∀ o, ops[j]? = some o → bits.getD j 0 = bitOr bits (bindsL o) ∧ (∀ x ∈ bindsL o, x < j) ∧ ∀ t ∈ (ls.getD j default).looks, ∀ i, i < ls.length → t ∈ (ls.getD i default).dsts → (bits.getD j 0).testBit i = true ∨ early ls bits i = false := by
    intro j hj o ho
    unfold pairsOk at h2
    rw [List.all_eq_true] at h2
    have := h2 j (List.mem_range.2 hj)
    have ho' : ops.toList[j]? = some o := by simpa using ho
    simp only [ho', Bool.and_eq_true, beq_iff_eq, List.all_eq_true, decide_eq_true_eq, List.mem_range, Bool.or_eq_true, Bool.not_eq_true'] at this
    obtain ⟨⟨a, b⟩, c⟩ := this
    refine ⟨a, b, fun t ht i hi hti => ?_⟩
    rcases c t ht i hi with (c | c) | c
    · have : (ls.getD i default).dsts.contains t = true := by simpa using hti
      rw [this] at c; simp at c
    · exact .inl c
    · exact .inr c
  have hlt : ∀ j o, ops[j]? = some o → j < ls.length := fun j o ho => by rw [← hlen]; exact (Array.getElem?_eq_some_iff.1 ho).1
  refine ⟨hlen.symm, ?_, ?_, ?_, ?_⟩
  · intro i hi
    have hio : i < ops.size := by omega
    refine ⟨ops[i], by simp [hio], hget i _ _ (by simp [hio]) (by simp [hi])⟩
  · intro j o ho x hx hb
    exact (hp j (hlt j o ho) o ho).2.1 x.on (List.mem_map.2 ⟨x, by simp [hx, hb], rfl⟩)
  · intro j o ho b hb
    rw [(hp j (hlt j o ho) o ho).1] at hb
    rcases bitOr_testBit _ _ hb with h | ⟨x, hx, h⟩
    · simp at h
    · obtain ⟨y, hy, rfl⟩ := List.mem_map.1 hx
      simp at hy
      exact ⟨y, hy.1, hy.2, h⟩
  · intro j hj t ht i hi hti
    obtain ⟨o, ho⟩ : ∃ o, ops[j]? = some o := ⟨ops[j]'(by omega), by simp⟩
    exact (hp j hj o ho).2.2 t ht i hi hti

end
end Go.Ab
