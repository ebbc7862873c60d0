/- Ranging over maps; and all operations that write. -/
import Derived.Test.YtpphdocfglmffaaGreatDoorAbR
import Derived.Maps.RangeRun
set_option linter.unusedVariables false
set_option linter.unusedSimpArgs false
namespace Go.Ab
open Go.RowKit (Below)

section
variable {P : Program} {ι : Inj} {w : World} {h : Hp} {e : Env} {ρ : Operand → Value}

theorem e_range {o : Oper} {t : TypeId} {x : Operand} {q : E1} {Q : V → Hp → Prop} (hR : Rel ι h w) (hρ : ∀ a b, cOpd a = some b → VR ι (b.val e) (ρ a)) (ho : o.op = .range t x) (hc : cOp P o.op = some (.e q)) (hv : (q.ev e).wp h Q) : GoesQ P ι h w (execOp ρ o) Q := by
  rw [ho] at hc; simp only [cOp, Option.bind_eq_some_iff] at hc
  obtain ⟨x', hx, d, hd, hc⟩ := hc
  cases d with
  | map kt et =>
    simp only [Option.some.injEq, A1.e.injEq] at hc; subst hc
    have rx := hρ x x' hx
    simp only [E1.ev] at hv
    split at hv
    · rename_i hx'
      rw [hx'] at rx
      simp only [VR] at rx
      have hv : Q (.it h.nx) (h.new (.mit none 0 [] 0)) := hv
      obtain ⟨r1, r2⟩ := allocOb_rel hR (o := .mit none 0 [] 0) (c := .mapIter none 0 #[] 0) ⟨none, heap_alloc_new _ _, trivial⟩
      refine ⟨_, _, hv, goesV (s := Instr.range t (ρ x)) (by unfold execOp; rw [ho]) ⟨.pointer (some ⟨w.heap.size, 0, none⟩), _, _, ?_, ⟨w.heap.size, by simp [Inj.addOb], rfl⟩, r1, r2⟩⟩
      unfold Instr.range
      simp [run_underlying' hd, rx]
    · rename_i m hx'
      rw [hx'] at rx
      obtain ⟨ob, hob, hv⟩ := hv
      cases ob with
      | sto => exact hv.elim
      | mit => exact hv.elim
      | map es clock =>
      have hv : Q (.it h.nx) (h.new (.mit (some m) clock [] clock)) := hv
      obtain ⟨c, ces, hc, ra, hw, hlt, hes⟩ := map_at hR rx hob
      have hle := Inj.le_addOb (ι := ι) (c := w.heap.size) (hR.ob_none (Nat.le_refl h.nx))
      obtain ⟨r1, r2⟩ := allocOb_rel hR (o := .mit (some m) clock [] clock) (c := .mapIter (some c) clock #[] clock) ⟨some c, heap_alloc_new _ _, hc⟩
      refine ⟨_, _, hv, goesV (s := Instr.range t (ρ x)) (by unfold execOp; rw [ho]) ⟨.pointer (some ⟨w.heap.size, 0, none⟩), _, _, ?_, ⟨w.heap.size, by simp [Inj.addOb], rfl⟩, r1, r2⟩⟩
      unfold Instr.range
      simp [run_underlying' hd, ra, run_getObj hw]
    · exact hv.elim
  | _ => simp at hc

/-- an iterator of the heap, in the world -/
theorem it_at (hR : Rel ι h w) {i : Nat} {a : Value} {m : Option Nat} {since st : Nat} {seen : List Nat} (hx : VR ι (.it i) a) (ho : h.obj i = some (.mit m since seen st)) :
    ∃ c cm, ι.ob i = some c ∧ a = .pointer (some ⟨c, 0, none⟩) ∧ w.heap[c]? = some (.mapIter cm since seen.toArray st) ∧ c < w.heap.size ∧ MitR ι m cm := by
  obtain ⟨c, hc, rfl⟩ := hx
  obtain ⟨_, hlt, o, ho', hor⟩ := hR.ob _ _ hc
  rw [ho] at ho'; simp at ho'; subst ho'
  obtain ⟨cm, h1, h2⟩ := hor
  exact ⟨c, cm, hc, rfl, h1, hlt, h2⟩

theorem EntsR.filter {f : MEnt → Bool} {g : MapEntry → Bool} (hfg : ∀ x y, EntR ι x y → f x = g y) : ∀ {xs : List MEnt} {ys : List MapEntry}, EntsR ι xs ys → EntsR ι (xs.filter f) (ys.filter g)
  | [], ys, h => by simp [EntsR] at h; subst h; simp [EntsR]
  | x :: xs, _, ⟨y, r, rfl, hy, hr⟩ => by
    have := hfg x y hy
    simp only [List.filter_cons, this]
    split
    · exact ⟨y, _, rfl, hy, EntsR.filter hfg hr⟩
    · exact EntsR.filter hfg hr

theorem EntsR.any {f : MEnt → Bool} {g : MapEntry → Bool} (hfg : ∀ x y, EntR ι x y → f x = g y) : ∀ {xs : List MEnt} {ys : List MapEntry}, EntsR ι xs ys → xs.any f = ys.any g
  | [], ys, h => by simp [EntsR] at h; subst h; simp
  | x :: xs, _, ⟨y, r, rfl, hy, hr⟩ => by simp [hfg x y hy, EntsR.any hfg hr]

theorem EntsR.get' : ∀ {xs : List MEnt} {ys : List MapEntry}, EntsR ι xs ys → ∀ {i : Nat} {z : MapEntry}, ys[i]? = some z → ∃ y, xs[i]? = some y ∧ EntR ι y z
  | [], ys, h, i, z, hz => by simp [EntsR] at h; subst h; simp at hz
  | x :: xs, _, ⟨y, r, rfl, hy, hr⟩, 0, z, hz => by simp at hz; subst hz; exact ⟨x, rfl, hy⟩
  | x :: xs, _, ⟨y, r, rfl, _, hr⟩, i + 1, z, hz => by simpa using EntsR.get' hr (i := i) (by simpa using hz)

theorem EntsR.find {f : MEnt → Bool} {g : MapEntry → Bool} (hfg : ∀ x y, EntR ι x y → f x = g y) : ∀ {xs : List MEnt} {ys : List MapEntry}, EntsR ι xs ys → ∀ {x}, xs.find? f = some x → ∃ y, ys.find? g = some y ∧ EntR ι x y
  | [], ys, h, x, hx => by simp at hx
  | z :: xs, _, ⟨y, r, rfl, hy, hr⟩, x, hx => by
    have := hfg z y hy
    simp only [List.find?_cons, this] at hx ⊢
    split at hx
    · simp at hx; subst hx; exact ⟨y, rfl, hy⟩
    · exact EntsR.find hfg hr hx

theorem e_entry {o : Oper} {x : Operand} {q : E1} {Q : V → Hp → Prop} (hR : Rel ι h w) (hρ : ∀ a b, cOpd a = some b → VR ι (b.val e) (ρ a)) (ho : o.op = .entry x) (hc : cOp P o.op = some (.e q)) (hv : (q.ev e).wp h Q) : GoesQ P ι h w (execOp ρ o) Q := by
  rw [ho] at hc; simp only [cOp, Option.map_eq_some_iff] at hc
  obtain ⟨x', hx, hc⟩ := hc
  simp only [A1.e.injEq] at hc; subst hc
  have rx := hρ x x' hx
  simp only [E1.ev] at hv
  split at hv
  case h_2 => exact hv.elim
  rename_i i hx'
  rw [hx'] at rx
  obtain ⟨ob, hob, hv⟩ := hv
  cases ob with
  | sto => exact hv.elim
  | map => exact hv.elim
  | mit m since seen st =>
  cases m with
  | none => exact hv.elim
  | some m =>
  obtain ⟨c, cm, hc, ra, hw, hlt, hm⟩ := it_at hR rx hob
  cases cm with
  | none => exact hm.elim
  | some d =>
  obtain ⟨ob2, hob2, hv⟩ := hv
  cases ob2 with
  | sto => exact hv.elim
  | mit => exact hv.elim
  | map es clock =>
  dsimp only at hv
  obtain ⟨d', ces, hd', rm, hw2, hlt2, hes⟩ := map_at hR (a := .map (some d)) ⟨d, hm, rfl⟩ hob2
  simp only [Value.map.injEq, Option.some.injEq] at rm; subst rm
  split at hv
  · exact hv.elim
  rename_i hcl
  split at hv
  case h_2 => exact hv.elim
  rename_i b hb
  split at hv
  case h_2 => exact hv.elim
  rename_i y hy
  obtain ⟨y', hy', hyy⟩ := hes.find (f := fun x => x.born == b) (g := fun e => e.born == b) (fun x y hxy => by rw [hxy.2.2]) hy
  refine ⟨_, _, hv, goesV (s := Instr.entry (ρ x)) (by unfold execOp; rw [ho]) ⟨.tuple #[y'.key, y'.val], w, ι, ?_, ⟨_, rfl, _, _, rfl, hyy.1, _, _, rfl, hyy.2.1, rfl⟩, hR, Ext.refl _ _ _⟩⟩
  have hcl' : clock = st := by omega
  have hb' : seen.toArray.back? = some b := by simpa using hb
  have hf' : ces.find? (fun e => e.born == b) = some y' := by rw [← Array.find?_toList]; exact hy'
  unfold Instr.entry
  simp [ra, run_getObj hw, hb', run_getObj hw2, hcl', hf']

theorem e_next {o : Oper} {x : Operand} {q : E1} {Q : V → Hp → Prop} (hR : Rel ι h w) (hρ : ∀ a b, cOpd a = some b → VR ι (b.val e) (ρ a)) (ho : o.op = .next x false) (hc : cOp P o.op = some (.e q)) (hv : (q.ev e).wp h Q) : GoesQ P ι h w (execOp ρ o) Q := by
  rw [ho] at hc; simp only [cOp, Option.map_eq_some_iff] at hc
  obtain ⟨x', hx, hc⟩ := hc
  simp only [A1.e.injEq] at hc; subst hc
  have rx := hρ x x' hx
  simp only [E1.ev] at hv
  split at hv
  case h_2 => exact hv.elim
  rename_i i hx'
  rw [hx'] at rx
  obtain ⟨ob, hob, hv⟩ := hv
  cases ob with
  | sto => exact hv.elim
  | map => exact hv.elim
  | mit m since seen st =>
  obtain ⟨c, cm, hc, ra, hw, hlt, hm⟩ := it_at hR rx hob
  have hfalse : VR ι (.tup [.bool false]) (.tuple #[.bool false]) := ⟨_, rfl, _, _, rfl, rfl, rfl⟩
  cases m with
  | none =>
    cases cm with
    | some d => exact hm.elim
    | none =>
    refine ⟨_, _, hv, goesV (s := Instr.next (ρ x) false o.type) (by unfold execOp; rw [ho]) ⟨.tuple #[.bool false], w, ι, ?_, hfalse, hR, Ext.refl _ _ _⟩⟩
    unfold Instr.next
    simp [ra, run_getObj hw]
  | some m =>
  cases cm with
  | none => exact hm.elim
  | some d =>
  obtain ⟨ob2, hob2, hv⟩ := hv
  cases ob2 with
  | sto => exact hv.elim
  | mit => exact hv.elim
  | map es clock =>
  dsimp only at hv
  obtain ⟨d', ces, hd', rm, hw2, hlt2, hes⟩ := map_at hR (a := .map (some d)) ⟨d, hm, rfl⟩ hob2
  simp only [Value.map.injEq, Option.some.injEq] at rm; subst rm
  split at hv
  · exact hv.elim
  rename_i hlast
  split at hv
  · exact hv.elim
  rename_i hany
  have hold : ∀ y ∈ ces.toList, y.born < since := by
    have h1 := hes.any (f := fun x => decide (x.born ≥ since)) (g := fun e => decide (e.born ≥ since)) (fun x y hxy => by rw [hxy.2.2])
    rw [h1] at hany
    intro y hy
    simp only [Bool.not_eq_true, List.any_eq_false, decide_eq_true_eq] at hany
    have := hany y hy
    omega
  have hleft := EntsR.filter (f := fun x => !seen.contains x.born) (g := fun e => !seen.toArray.contains e.born) (fun x y hxy => by rw [hxy.2.2]; simp) hes
  have hll : (leftOf ces seen.toArray).toList = ces.toList.filter fun e => !seen.toArray.contains e.born := by simp [leftOf]
  rw [← hll] at hleft
  have hlen : (es.filter fun x => !seen.contains x.born).length = (leftOf ces seen.toArray).size := by rw [hleft.length, Array.length_toList]
  rcases run_next_at (P := P) w o.type c d since st seen.toArray ces clock hw hw2 hold (by omega) with ⟨h0, hrun⟩ | ⟨z, hz, w1, hw1, hrun⟩
  · rw [if_pos (by rw [hlen]; exact h0)] at hv
    refine ⟨_, _, hv, goesV (s := Instr.next (ρ x) false o.type) (by unfold execOp; rw [ho]) ⟨.tuple #[.bool false], w, ι, ?_, hfalse, hR, Ext.refl _ _ _⟩⟩
    rw [ra]; exact hrun
  · obtain ⟨j, hj, hjz⟩ := List.mem_iff_getElem.1 hz
    rw [if_neg (by rw [hlen]; have := List.length_pos_of_mem hz; simp only [Array.length_toList] at this; omega)] at hv
    obtain ⟨_, hv⟩ := hv
    have hv := hv j (by rw [hlen, ← Array.length_toList]; exact hj)
    obtain ⟨y, hy, hyz⟩ := hleft.get' (List.getElem?_eq_some_iff.2 ⟨hj, hjz⟩)
    simp only [hy] at hv
    have hR1 : Rel ι h w1 := by rcases hw1 with rfl | rfl; exact hR; exact hR.congr rfl
    have hE1 : Ext ι h w ι h w1 := by rcases hw1 with rfl | rfl; exact Ext.refl _ _ _; exact Ext.drew _ _ _
    have hlt1 : c < w1.heap.size := by rcases hw1 with rfl | rfl <;> exact hlt
    obtain ⟨r1, r2⟩ := setOb_rel (w := w1) (co := .mapIter (some d) since (seen.toArray.push z.born) clock) hR1 hc (o := .mit (some m) since (seen ++ [y.born]) clock) ⟨some d, by rw [putObj_get hlt1, if_pos rfl, hyz.2.2]; simp, hm⟩
    refine ⟨_, _, hv, goesV (s := Instr.next (ρ x) false o.type) (by unfold execOp; rw [ho]) ⟨.tuple #[.bool true, z.key, z.val], _, ι, ?_, ⟨_, rfl, _, _, rfl, rfl, _, _, rfl, hyz.1, _, _, rfl, hyz.2.1, rfl⟩, r1, hE1.trans r2⟩⟩
    rw [ra]; exact hrun

theorem e_mark {o : Oper} {src dst : TypeId} {x : Operand} {q : E1} {Q : V → Hp → Prop} (hR : Rel ι h w) (hρ : ∀ a b, cOpd a = some b → VR ι (b.val e) (ρ a)) (ho : o.op = .convert src dst x) (hc : cOp P o.op = some (.e q)) (hv : (q.ev e).wp h Q) : GoesQ P ι h w (execOp ρ o) Q := by
  rw [ho] at hc; simp only [cOp, Option.bind_eq_some_iff] at hc
  obtain ⟨y, hy, a, ha, b, hb, hc⟩ := hc
  have rx := hρ x y hy
  split at hc
  · simp at hc
  · simp at hc
  · rename_i e1 e2
    split at hc
    case isFalse => simp at hc
    rename_i hsd
    split at hc
    case h_2 => simp at hc
    rename_i hel
    rw [if_pos rfl] at hc
    simp only [Option.some.injEq, A1.e.injEq] at hc; subst hc
    simp only [E1.ev] at hv
    split at hv
    case h_2 => exact hv.elim
    rename_i s g o' n c z hs
    rw [hs] at rx
    obtain ⟨ob, hob, hv⟩ := hv
    cases ob with
    | map => exact hv.elim
    | mit => exact hv.elim
    | sto cells old dirty esz =>
    dsimp only at hv
    split at hv
    case isFalse => exact hv.elim
    rename_i hg
    obtain ⟨hcpos, hg⟩ := hg
    have rx' := rx
    obtain ⟨A, cap', ra, hle, hh⟩ := rx'
    rcases hh with ⟨h1, h2⟩ | ⟨L, hL, hbase, rfl, hh⟩
    · omega
    obtain ⟨⟨el', f1⟩, f2, f3⟩ := freeze_rel hR hL hob hg
    refine ⟨_, _, hv, goesV (s := convert src dst (ρ x)) (by unfold execOp; rw [ho]) ⟨ρ x, _, ι, ?_, rx, f2, f3⟩⟩
    unfold convert
    simp [ra, run_underlying' ha, run_underlying' hb, run_underlying' hel, hsd, markStringish, f1]
  · split at hc <;> simp at hc
  · split at hc
    · split at hc <;> simp at hc
    · simp at hc
  · simp at hc

theorem clone_unf (t : TypeId) (r : Nat) : Extern.MapsClone.clone #[.iface t (.map (some r))] = (do
    let x ← getObj r
    match x with
    | .map entries clock => do pure (.iface t (.map (some (← newObj (.map entries clock)))))
    | _ => stuck "maps.clone: a map expected") := rfl

theorem e_mclone {o : Oper} {f : FuncId} {fn : Func} {args : Array Operand} {ts : Array TypeId} {q : E1} {Q : V → Hp → Prop} (hR : Rel ι h w) (hρ : ∀ a b, cOpd a = some b → VR ι (b.val e) (ρ a)) (hf : ∀ f, ρ (.func f) = .func (.func f) #[] #[]) (ho : o.op = .call { callee := .value (.func f), args, argTypes := ts }) (hfn : P.funcs[f]? = some fn)
    (h1 : (fn.name == "runtime.NumGoroutine") = false) (h2 : fn.body.isSome = false) (hor : fn.origin = "") (hc : cExtern fn.name args.toList = some (.e q)) (hv : (q.ev e).wp h Q) : GoesQ P ι h w (execOp ρ o) Q := by
  unfold cExtern at hc
  split at hc
  · simp only [Option.bind_eq_some_iff] at hc
    obtain ⟨_, _, _, _, hc⟩ := hc
    repeat' (split at hc)
    all_goals simp at hc
  · rename_i a hab
    have : args = #[a] := by apply Array.ext'; rw [hab]
    subst this
    simp only [Option.bind_eq_some_iff] at hc
    obtain ⟨a', ha', hc⟩ := hc
    split at hc
    case isFalse => simp at hc
    rename_i hnm
    simp only [Option.some.injEq, A1.e.injEq] at hc; subst hc
    have ra := hρ a a' ha'
    simp only [E1.ev] at hv
    split at hv
    case h_2 => exact hv.elim
    rename_i t r hs
    rw [hs] at ra
    obtain ⟨d, rd, ra⟩ := ra
    obtain ⟨ob, hob, hv⟩ := hv
    cases ob with
    | sto => exact hv.elim
    | mit => exact hv.elim
    | map es clock =>
    dsimp only at hv
    obtain ⟨c, ces, hcc, rfl, hw, hlt, hes⟩ := map_at hR ra hob
    have hv : Q (.ifc t (.map h.nx)) (h.new (.map es clock)) := hv
    obtain ⟨hn, he⟩ := ext_clone hnm hor
    obtain ⟨r1, r2⟩ := allocOb_rel hR (o := .map es clock) (c := .map ces clock) ⟨ces, heap_alloc_new _ _, hes⟩
    refine ⟨_, _, hv, ⟨.value (.iface t (.map (some w.heap.size))), _, _, _, ?_, .inl rfl, ⟨_, rfl, w.heap.size, by simp [Inj.addOb], rfl⟩, r1, r2⟩⟩
    rw [callExt ho hfn (hf f) h1 h2 hn he]
    simp only [List.map_toArray, List.map_cons, List.map_nil, rd, clone_unf]
    simp [run_getObj hw]
  · simp at hc

end
end Go.Ab
