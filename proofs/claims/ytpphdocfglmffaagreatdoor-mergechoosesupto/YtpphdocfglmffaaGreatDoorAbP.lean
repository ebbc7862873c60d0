/- The operations that write. -/
import Derived.Test.YtpphdocfglmffaaGreatDoorAbO
set_option linter.unusedVariables false
set_option linter.unusedSimpArgs false
namespace Go.Ab
open Go.RowKit (Below)

section
variable {P : Program} {ι : Inj} {w : World} {h : Hp} {e : Env} {ρ : Operand → Value}

/-- what holds of every ending of an operation that writes -/
def HM.wp : HM → Hp → (V → Hp → Prop) → Prop
  | .ret v, h, Q => Q v h
  | .fail, _, _ => False
  | .get i k, h, Q => ∃ o, h.obj i = some o ∧ (k o).wp h Q
  | .set i o k, h, Q => k.wp (h.set i o) Q
  | .new o k, h, Q => (k h.nx).wp (h.new o) Q
  | .pick n k, h, Q => 0 < n ∧ ∀ c, c < n → (k c).wp h Q

/-- it comes to one of the endings -/
def GoesQ (P : Program) (ι : Inj) (h : Hp) (w : World) (s : Sem Next) (Q : V → Hp → Prop) : Prop := ∃ v k, Q v k ∧ Goes P ι h w s v k

theorem e_store {o : Oper} {t : TypeId} {a x : Operand} {q : E1} {Q : V → Hp → Prop} (hR : Rel ι h w) (hρ : ∀ a b, cOpd a = some b → VR ι (b.val e) (ρ a)) (ho : o.op = .store t a x) (hc : cOp P o.op = some (.e q)) (hv : (q.ev e).wp h Q) : GoesQ P ι h w (execOp ρ o) Q := by
  rw [ho] at hc; simp only [cOp, Option.bind_eq_some_iff, Option.map_eq_some_iff] at hc
  obtain ⟨n, hn, a', ha, x', hx, hc⟩ := hc
  simp only [A1.e.injEq] at hc; subst hc
  have ra := hρ a a' ha
  have rx := hρ x x' hx
  simp only [E1.ev] at hv
  split at hv
  case h_2 => exact hv.elim
  rename_i s g o' hs
  rw [hs] at ra
  obtain ⟨ob, hob, hv⟩ := hv
  cases ob with
  | map => exact hv.elim
  | mit => exact hv.elim
  | sto cells old dirty esz =>
  dsimp only at hv
  split at hv
  case isFalse => exact hv.elim
  rename_i hlen
  split at hv
  case h_2 => exact hv.elim
  rename_i ob' hwr
  obtain ⟨L, hL, hb, rc⟩ := ra
  obtain ⟨u, hrun, hR', hE⟩ := write_rel (P := P) hR hL hb hob hwr rx.cells
  refine ⟨und, _, hv, goesU (s := Instr.storeAt t (ρ a) (ρ x)) (by unfold execOp; rw [ho]) ⟨u, ι, ?_, hR', hE⟩⟩
  unfold Instr.storeAt storeVar
  have hsz : (ρ x).cells.size = n := by rw [← Array.length_toList, ← rx.cells.length]; exact hlen
  simp [rc, Instr.sureAddr, run_sizeOf hn, hsz, hrun]

/-- the cells that a source holds -/
theorem src_run {x : V} {a : Value} {sz : Nat} {k : Nat → List V → HM} {Q : V → Hp → Prop} (hR : Rel ι h w) (hx : VR ι x a) (hv : (srcCells x sz k).wp h Q) :
    ∃ n vs cs, (k n vs).wp h Q ∧ (Builtin.lenOf a).run P w = .ok n w ∧ (∀ m u, u.heap = w.heap → m ≤ n → (Builtin.firstCells sz m a).run P u = .ok (cs.take (m * sz)).toArray u) ∧ VRs ι vs cs ∧ vs.length = n * sz := by
  unfold srcCells at hv
  split at hv
  · split at hv
    case isFalse => exact hv.elim
    rename_i s hsz
    subst hsz
    obtain ⟨b, rfl, rfl⟩ := hx
    refine ⟨_, _, b.data.toList.map fun (b : UInt8) => Value.int .u8 b.toNat, hv, by simp [Builtin.lenOf], ?_, ?_, by simp⟩
    · intro m u _ hm
      simp only [Builtin.firstCells, Sem.run_pure]
      congr 1
      apply Array.ext'
      rw [ByteArray.data_extract]
      simp [List.extract_eq_take_drop]
    · refine VRs.mk (by simp) fun i v c hv hc => ?_
      simp only [List.getElem?_map, Option.map_eq_some_iff] at hv hc
      obtain ⟨p, hp, rfl⟩ := hv
      obtain ⟨p', hp', rfl⟩ := hc
      rw [hp] at hp'; simp at hp'; subst hp'; rfl
  · simp only [VR] at hx; subst hx
    refine ⟨0, [], [], hv, rfl, ?_, rfl, by simp⟩
    intro m u _ hm
    simp [Builtin.firstCells]
  · rename_i s g o n c z
    obtain ⟨ob, hob, hv⟩ := hv
    cases ob with
    | map => exact hv.elim
    | mit => exact hv.elim
    | sto cells old dirty esz =>
    dsimp only at hv
    split at hv
    case h_2 => exact hv.elim
    rename_i vs hvs
    have hr : rdAt h.obj s g o (n * sz) = some vs := by simp only [rdAt, hob]; exact hvs
    obtain ⟨ad, cap', cs, rfl, hvr, hl, hcell⟩ := slc_run hR hx hr (by intro h; simp [h])
    refine ⟨n, vs, cs, hv, rfl, ?_, hvr, by rw [hvr.length, hl]⟩
    intro m u hu hm
    have hm' : m * sz ≤ n * sz := Nat.mul_le_mul_right _ hm
    have hcu : ∀ a, u.cell? a = w.cell? a := fun a => by simp [World.cell?, hu]
    have := run_loadCells_list (P := P) (w := u) ad (cs.take (m * sz)) fun j d hj => by
     rw [hcu]; exact hcell j d (by
      rw [List.getElem?_take] at hj; split at hj <;> simp_all)
    simp only [List.length_take, hl] at this
    rw [Nat.min_eq_left hm'] at this
    simp only [Builtin.firstCells]
    exact this
  · exact hv.elim

end
end Go.Ab
