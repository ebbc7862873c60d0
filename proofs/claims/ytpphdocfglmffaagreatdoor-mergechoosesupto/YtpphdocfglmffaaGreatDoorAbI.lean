/- The pure operations: slices, structs; and all of them in one law. -/
import Derived.Test.YtpphdocfglmffaaGreatDoorAbH
set_option linter.unusedVariables false
set_option linter.unusedSimpArgs false
namespace Go.Ab

section
variable {P : Program} {ι : Inj} {w : World} {e : Env} {ρ : Operand → Value}

theorem add_eq (a b n : Nat) : Addr.add ⟨a, b, none⟩ n = ⟨a, b + n, none⟩ := by
  unfold Addr.add; split
  · rename_i h; simp [h]
  · rfl

theorem slcS_run {t el : TypeId} {sz : Nat} {s g o n c : Nat} {a : Value} {lo hi mx : Option Opd} {lo' hi' mx' : Option Operand} {r : Nat × Nat × Nat} (hρ : ∀ a b, cOpd a = some b → VR ι (b.val e) (ρ a))
    (ht : P.underlying t = some (.slice el)) (hz : szOf P el = some sz) (hx : VR ι (.slc s g o n c sz) a)
    (h1 : optO cOpd lo' = some lo) (h2 : optO cOpd hi' = some hi) (h3 : optO cOpd mx' = some mx) (h : bnds e n c lo hi mx = some r) :
    Pays P ι w (Instr.sliceAt t a (lo'.map ρ) (hi'.map ρ) (mx'.map ρ)) (.slc s g (o + r.1 * sz) (r.2.1 - r.1) (r.2.2 - r.1) sz) := by
  obtain ⟨A, cap', rfl, hn, hor⟩ := hx
  obtain ⟨_, hb, b1, b2, b3, b4, _⟩ := bnds_run (P := P) (w := w) hρ h1 h2 h3 h true
  have hcap : c ≤ cap' := by rcases hor with ⟨h, k⟩ | ⟨L, _, _, _, h | ⟨h, _⟩⟩ <;> omega
  obtain ⟨m', hm, m1, m2⟩ := hb cap' hcap
  have b2 := b2 hn
  refine ⟨.slice (if m' = r.1 then some A else some (A.add (r.1 * sz))) (r.2.1 - r.1) (m' - r.1), ?_, ?_⟩
  · unfold Instr.sliceAt Instr.slice
    simp only [Sem.run_bind, run_underlying' ht, Result.andThen_ok, hm, run_sizeOf hz, Sem.run_pure]
    split <;> simp
  · have hm' : m' = r.2.2 ∨ (r.2.2 = c ∧ m' = cap') := by
      cases hq : mx'.isSome
      · exact .inr ⟨b4 hq, m2 hq⟩
      · exact .inl (m1 hq)
    by_cases he : m' = r.1
    · simp only [he, if_true, Nat.sub_self]
      refine ⟨A, 0, rfl, by omega, .inl ⟨?_, rfl⟩⟩
      rcases hm' with h | ⟨h, k⟩ <;> omega
    · simp only [he, if_false]
      refine ⟨_, _, rfl, by omega, ?_⟩
      rcases hor with ⟨h, k⟩ | ⟨L, hL, hbase, rfl, hor⟩
      · exact .inl (by rcases hm' with h' | ⟨h', k'⟩ <;> omega)
      refine .inr ⟨L, hL, by omega, by rw [add_eq]; congr 1; omega, ?_⟩
      rcases hor with h | ⟨h, hes, hsz, hcs⟩
      · exact .inl (by rcases hm' with h' | ⟨h', k'⟩ <;> omega)
      · rcases hm' with h' | ⟨h', k'⟩
        · exact .inl (by omega)
        · refine .inr ⟨by omega, hes, ?_, ?_⟩
          · rw [h', Nat.sub_mul]
            have : r.1 * sz ≤ c * sz := Nat.mul_le_mul_right _ (by omega)
            omega
          · rw [k', Nat.sub_mul]
            have : r.1 * sz ≤ cap' * sz := Nat.mul_le_mul_right _ (by omega)
            omega

theorem slcN_run {t el : TypeId} {a : Value} {lo hi mx : Option Opd} {lo' hi' mx' : Option Operand} {r : Nat × Nat × Nat} {sz : Nat} (hρ : ∀ a b, cOpd a = some b → VR ι (b.val e) (ρ a))
    (ht : P.underlying t = some (.slice el)) (hz : szOf P el = some sz) (hx : VR ι .nslc a)
    (h1 : optO cOpd lo' = some lo) (h2 : optO cOpd hi' = some hi) (h3 : optO cOpd mx' = some mx) (h : bnds e 0 0 lo hi mx = some r) :
    Pays P ι w (Instr.sliceAt t a (lo'.map ρ) (hi'.map ρ) (mx'.map ρ)) .nslc := by
  simp only [VR] at hx; subst hx
  obtain ⟨_, hb, b1, b2, b3, b4, _⟩ := bnds_run (P := P) (w := w) hρ h1 h2 h3 h true
  obtain ⟨m', hm, m1, m2⟩ := hb 0 (Nat.le_refl _)
  have b2 := b2 (Nat.le_refl _)
  have hm' : m' = 0 := by
    cases hq : mx'.isSome
    · exact m2 hq
    · have := m1 hq; omega
  have hr1 : r.1 = 0 := by omega
  have hr2 : r.2.1 = 0 := by omega
  refine ⟨.slice none 0 0, ?_, rfl⟩
  unfold Instr.sliceAt Instr.slice
  simp only [Sem.run_bind, run_underlying' ht, Result.andThen_ok, hm, run_sizeOf hz, Sem.run_pure, hr1, hr2, hm']
  simp

theorem slcStr_run {t : TypeId} {s : List UInt8} {a : Value} {lo hi : Option Opd} {lo' hi' : Option Operand} {r : Nat × Nat × Nat} (hρ : ∀ a b, cOpd a = some b → VR ι (b.val e) (ρ a))
    (ht : P.underlying t = some .string) (hx : VR ι (.str s) a)
    (h1 : optO cOpd lo' = some lo) (h2 : optO cOpd hi' = some hi) (h : bnds e s.length s.length lo hi none = some r) :
    Pays P ι w (Instr.sliceAt t a (lo'.map ρ) (hi'.map ρ) none) (.str ((s.drop r.1).take (r.2.1 - r.1))) := by
  obtain ⟨b, rfl, rfl⟩ := hx
  obtain ⟨_, hb, b1, b2, b3, b4, _⟩ := bnds_run (P := P) (w := w) (mx' := none) hρ h1 h2 rfl h false
  obtain ⟨m', hm, m1, m2⟩ := hb b.data.toList.length (Nat.le_refl _)
  refine ⟨.string (b.extract r.1 r.2.1), ?_, b.extract r.1 r.2.1, rfl, ?_⟩
  · unfold Instr.sliceAt Instr.slice
    have hl : b.data.toList.length = b.size := by simp
    rw [hl] at hm
    simp only [Option.map_none] at hm
    simp only [Sem.run_bind, run_underlying' ht, Result.andThen_ok, Option.isSome_none, Bool.false_eq_true, if_false, hm, Sem.run_pure]
  · rw [ByteArray.data_extract]
    simp [List.extract_eq_take_drop]

theorem slcA_run {t el : TypeId} {n sz : Nat} {s g o : Nat} {a : Value} {lo hi mx : Option Opd} {lo' hi' mx' : Option Operand} {r : Nat × Nat × Nat} (hρ : ∀ a b, cOpd a = some b → VR ι (b.val e) (ρ a))
    (ht : P.underlying t = some (.array n el) ∨ ∃ u, P.underlying t = some (.pointer u) ∧ P.underlying u = some (.array n el)) (hz : szOf P el = some sz) (hx : VR ι (.ptr s g o) a)
    (h1 : optO cOpd lo' = some lo) (h2 : optO cOpd hi' = some hi) (h3 : optO cOpd mx' = some mx) (h : bnds e n n lo hi mx = some r) :
    Pays P ι w (Instr.sliceAt t a (lo'.map ρ) (hi'.map ρ) (mx'.map ρ)) (.slc s g (o + r.1 * sz) (r.2.1 - r.1) (r.2.2 - r.1) sz) := by
  obtain ⟨L, hL, hbase, rfl⟩ := hx
  obtain ⟨_, hb, b1, b2, b3, b4, _⟩ := bnds_run (P := P) (w := w) hρ h1 h2 h3 h false
  obtain ⟨m', hm, m1, m2⟩ := hb n (Nat.le_refl _)
  have b2 := b2 (Nat.le_refl _)
  have hm' : m' = r.2.2 := by
    cases hq : mx'.isSome
    · rw [m2 hq, b4 hq]
    · exact m1 hq
  subst hm'
  refine ⟨.slice (some (if r.2.2 = r.1 then ⟨L.cb, L.coff + (o - L.base), none⟩ else ⟨L.cb, L.coff + (o - L.base) + r.1 * sz, none⟩)) (r.2.1 - r.1) (r.2.2 - r.1), ?_, ?_⟩
  · rcases ht with ht | ⟨u, ht, hu⟩
    · unfold Instr.sliceAt
      simp only [Sem.run_bind, run_underlying' ht, Result.andThen_ok, Instr.sureAddr, Sem.run_pure, hm, run_sizeOf hz, add_eq]
    · unfold Instr.sliceAt Instr.slice
      simp only [Sem.run_bind, run_underlying' ht, run_underlying' hu, Result.andThen_ok, asAddr, Sem.run_pure, hm, run_sizeOf hz, add_eq]
  · by_cases he : r.2.2 = r.1
    · simp only [he, if_true, Nat.sub_self]
      exact ⟨_, 0, rfl, by omega, .inl ⟨rfl, rfl⟩⟩
    · simp only [he, if_false]
      exact ⟨_, _, rfl, by omega, .inr ⟨L, hL, by omega, by congr 1; omega, .inl rfl⟩⟩

theorem lay_go (off : Nat) : ∀ (l : List Value) (k : Nat) (ds : Array Value), off + k + l.length ≤ ds.size →
    ((l.zipIdx k).foldl (fun cs (x : Value × Nat) => cs.setIfInBounds (off + x.2) x.1) ds).toList = ds.toList.take (off + k) ++ (l ++ ds.toList.drop (off + k + l.length))
  | [], k, ds, h => by simp
  | c :: l, k, ds, h => by
    simp only [List.length_cons] at h
    rw [List.zipIdx_cons, List.foldl_cons, lay_go off l (k + 1) _ (by simp; omega)]
    have hlt : off + k < ds.toList.length := by simp; omega
    simp only [Array.toList_setIfInBounds]
    rw [show off + (k + 1) = off + k + 1 from by omega, List.take_succ_eq_append_getElem (by simpa using hlt)]
    simp only [List.getElem_set_self, List.length_cons]
    rw [List.take_set_of_le (by omega), List.drop_set_of_lt (by omega)]
    simp [show off + k + 1 + l.length = off + k + (l.length + 1) from by omega]

theorem lay_list (cs ds : Array Value) (off : Nat) (h : off + cs.toList.length ≤ ds.toList.length) :
    (cs.zipIdx.foldl (fun cs (c, j) => cs.setIfInBounds (off + j) c) ds).toList = ds.toList.take off ++ cs.toList ++ ds.toList.drop (off + cs.toList.length) := by
  have := lay_go off cs.toList 0 ds (by simpa using h)
  rw [← Array.foldl_toList, Array.toList_zipIdx]
  simpa [List.append_assoc] using this

theorem fill_run {place : Nat → Option (Nat × Nat)} (hρ : ∀ a b, cOpd a = some b → VR ι (b.val e) (ρ a)) : ∀ (ops : List (Nat × Operand)) (parts : List (Nat × Nat × Opd)) (cells cs : List V) (ds : Array Value),
    partsOf place ops = some parts → fillAll e cells parts = some cs → VRs ι cells ds.toList →
    ∃ es, Instr.fill place ds (ops.map fun x => (x.1, ρ x.2)) = some es ∧ VRs ι cs es.toList
  | [], parts, cells, cs, ds, hp, hf, hr => by
    simp [partsOf, allO] at hp; subst hp
    simp [fillAll] at hf; subst hf
    exact ⟨ds, rfl, hr⟩
  | (i, x) :: ops, parts, cells, cs, ds, hp, hf, hr => by
    simp only [partsOf, allO, Option.bind_eq_some_iff, Option.map_eq_some_iff] at hp
    obtain ⟨p, ⟨⟨off, sz⟩, hpl, y, hy, rfl⟩, rest, hrest, rfl⟩ := hp
    simp only [fillAll] at hf
    split at hf
    case isFalse => simp at hf
    rename_i hc
    have hv := (hρ x y hy).cells
    have hlen := hv.length
    have hl2 := hr.length
    have hsz : (ρ x).cells.size = sz := by rw [← Array.length_toList, ← hlen]; exact hc.1
    have hov : VRs ι (over cells off (y.val e).cells) ((ρ x).cells.zipIdx.foldl (fun cs (c, j) => cs.setIfInBounds (off + j) c) ds).toList := by
      rw [lay_list _ _ _ (by omega)]
      have := (hr.take off).append (hv.append (hr.drop (off + (y.val e).cells.length)))
      rw [hlen] at this
      simpa [over, hlen, List.append_assoc] using this
    obtain ⟨es, he, hes⟩ := fill_run hρ ops rest _ cs _ hrest hf hov
    refine ⟨es, ?_, hes⟩
    have hnot : ¬ ((ρ x).cells.size ≠ sz || off + (ρ x).cells.size > ds.size) = true := by
      have : ds.size = ds.toList.length := by simp
      simp [hsz]; omega
    simp only [List.map_cons, Instr.fill, hpl, hnot]
    exact he

end
end Go.Ab
