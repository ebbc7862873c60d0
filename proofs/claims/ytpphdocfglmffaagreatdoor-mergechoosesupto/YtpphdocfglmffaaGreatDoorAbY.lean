/- A drawn region: the steps of the one order. -/
import Derived.Test.YtpphdocfglmffaaGreatDoorAbX
set_option linter.unusedVariables false
set_option linter.unusedSimpArgs false
namespace Go.Ab
open Go.RowKit (Below)

section
variable {P : Program} {ι : Inj} {w : World} {h : Hp} {e : Env}
variable {nt : Nat} {ops : Array Oper} {ls : List AOp} {bits : List Nat} {ι0 : Inj} {h0 : Hp} {w0 : World} {ds : List Deferred} {pre : List Nat} {listed : Array Bool} {sl : Nat → Nat} {eC : Env} {a : Act}

theorem all_listed (S : Static P nt ops ls bits) (hs : listed.size = ls.length) (hr : Region.ready .any ops listed = []) : ∀ i, i < ls.length → listed.getD i false = true := by
  intro i
  induction i using Nat.strongRecOn with
  | _ i ih =>
    intro hi
    by_cases hl : listed.getD i false = true
    · exact hl
    · exfalso
      obtain ⟨o, ho, _⟩ := S.at' i hi
      have hlt : i < listed.size := by rw [hs]; exact hi
      have : i ∈ Region.ready .any ops listed := mem_ready.2 ⟨by simpa [hlt] using hl, o, ho, fun x hx hb => ih x.on (S.low i o ho x hx hb) (by have := S.low i o ho x hx hb; omega)⟩
      rw [hr] at this
      cases this

/-- a node of the one order: who is not yet of it is handled, whatever the drawn order has done meanwhile -/
theorem draw_go (S : Static P nt ops ls bits) {Qc : Exit → Act → World → Prop}
    (Hn : ∀ fuel listed ι eC a w (u : List Nat), Inv nt ls bits ι0 h0 w0 ds pre listed sl ι e eC h a w → u.length ≤ fuel + 1 → (∀ i, i < ls.length → listed.getD i false = false → i ∈ u) → ∀ j ∈ Region.ready .any ops listed, j ∉ pre → wpOp P ops Qc j (wpAny P .any ops Qc fuel (listed.setIfInBounds j true)) a w)
    (He : ∀ listed ι eC a w, Inv nt ls bits ι0 h0 w0 ds pre listed sl ι e eC h a w → (∀ i, i < ls.length → listed.getD i false = true) → Qc .normal a w) :
    ∀ fuel listed ι eC a w (u : List Nat), Inv nt ls bits ι0 h0 w0 ds pre listed sl ι e eC h a w → u.length ≤ fuel → (∀ i, i < ls.length → listed.getD i false = false → i ∈ u) → wpAny P .any ops Qc fuel listed a w := by
  intro fuel
  induction fuel with
  | zero =>
    intro listed ι eC a w u I hu hun
    have hu0 : u = [] := List.length_eq_zero_iff.1 (by omega)
    have hall : ∀ i, i < ls.length → listed.getD i false = true := by
      intro i hi
      cases hh : listed.getD i false with
      | true => rfl
      | false => have := hun i hi hh; rw [hu0] at this; cases this
    refine ⟨?_, He _ _ _ _ _ I hall⟩
    cases hr : Region.ready .any ops listed with
    | nil => rfl
    | cons j r =>
      obtain ⟨hlt, hf, _⟩ := ready_spec S I (j := j) (by rw [hr]; simp)
      rw [hall j hlt] at hf; simp at hf
  | succ fuel ih =>
    intro listed ι eC a w u I hu hun
    refine ⟨fun hr => He _ _ _ _ _ I (all_listed S I.size hr), fun j hj => ?_⟩
    by_cases hp : j ∈ pre
    · refine draw_late S I hj hp fun κ eC' a' w' I' => ?_
      obtain ⟨hlt, hf, _⟩ := ready_spec S I hj
      have hju := hun j hlt hf
      refine ih _ κ eC' a' w' (u.erase j) I' (by rw [List.length_erase_of_mem hju]; omega) ?_
      intro i hi hif
      rw [set_true (by rw [I.size]; exact hlt)] at hif
      split at hif
      · simp at hif
      · rename_i hne; exact (List.mem_erase_of_ne hne).2 (hun i hi hif)
    · exact Hn fuel listed ι eC a w u I hu hun j hj hp

theorem Rel.grow (hR : Rel ι h w) (o : Ob) : Rel ι (h.new o) w where
  st := fun s g L hL => by
    obtain ⟨a, b, c⟩ := hR.st s g L hL
    refine ⟨by simp [Hp.new]; omega, b, fun cells old dirty esz ho => c _ _ _ _ ?_⟩
    have : s ≠ h.nx := by omega
    simpa [Hp.new, this] using ho
  sep := hR.sep
  ob := fun i c hc => by
    obtain ⟨a, b, o', ho', hor⟩ := hR.ob i c hc
    have : i ≠ h.nx := by omega
    exact ⟨by simp [Hp.new]; omega, b, o', by simp [Hp.new, this, ho'], hor⟩
  obsep := hR.obsep
  kind := hR.kind
  obj := fun i o' ho => by
    simp only [Hp.new] at ho ⊢
    split at ho
    · omega
    · have := hR.obj i o' ho; omega

theorem Ext.grow (hR : Rel ι h w) (o : Ob) : Ext ι h w ι (h.new o) w :=
  ⟨Inj.le.refl _, rfl, rfl, rfl, Nat.le_refl _, Nat.le_refl _, by simp [Hp.new], fun b _ r => ⟨⟨fun s g L hL hcb cells old dirty esz ho => by
    have : s ≠ h.nx := by have := (hR.st s g L hL).1; omega
    simp only [Hp.new, if_neg this] at ho
    exact r.1 s g L hL hcb _ _ _ _ ho, r.2⟩, rfl⟩, fun i hi a b => ⟨a, b, by
    have : i ≠ h.nx := by omega
    simp [Hp.new, this]⟩, fun _ _ _ a b => by simp [a] at b, fun _ _ a b => by simp [a] at b⟩

theorem Obs.le_new (hR : Rel ι h w) (o : Ob) : Obs.le h.obj (h.new o).obj := by
  intro s o' ho
  have := hR.obj s o' ho
  have hne : s ≠ h.nx := by omega
  simp [Hp.new, hne, ho]

/-- the one order goes on; the drawn one stands -/
theorem Inv.skip (I : Inv nt ls bits ι0 h0 w0 ds pre listed sl ι e eC h a w) {i : Nat} (hi : i < ls.length) (hip : i ∉ pre) (hea : Ab.early ls bits i = true)
    (hd : ∀ d ∈ (ls.getD i default).dsts, ∀ r ∈ pre, d ∉ (ls.getD r default).looks ∧ d ∉ (ls.getD r default).dsts) {v : V} {h' : Hp} {s : Nat}
    (hH : Obs.le h.obj h'.obj) (hn : h.nx ≤ h'.nx) (hR : Rel ι h' w) (hE : Ext ι h w ι h' w)
    (hf : Fact ι (e.put (ls.getD i default).dst v) h' h0.nx s (ls.getD i default)) (hs : IsN (e.put (ls.getD i default).dst v) (ls.getD i default) → h.nx ≤ s) :
    Inv nt ls bits ι0 h0 w0 ds (i :: pre) listed (fun j => if j = i then s else sl j) ι (e.put (ls.getD i default).dst v) eC h' a w := by
  have hiu : listed.getD i false = false := by
    cases hh : listed.getD i false with
    | false => rfl
    | true => exact absurd (I.sub i hh) hip
  have hl : ∀ r ∈ pre, ∀ t ∈ (ls.getD r default).looks, e t = e.put (ls.getD i default).dst v t := by
    intro r hr t ht
    rw [putE_ne fun hh => (hd t hh r hr).1 ht]
  have hdd : ∀ r ∈ pre, ∀ t ∈ (ls.getD r default).dsts, e t = e.put (ls.getD i default).dst v t := by
    intro r hr t ht
    rw [putE_ne fun hh => (hd t hh r hr).2 ht]
  have hisn : ∀ r ∈ pre, IsN (e.put (ls.getD i default).dst v) (ls.getD r default) → IsN e (ls.getD r default) := by
    intro r hr hN
    exact ⟨by rw [looks_wanted (hl r hr)]; exact hN.1, hN.2⟩
  have hlow : ∀ r ∈ pre, listed.getD r false = false → IsN e (ls.getD r default) → sl r < h.nx := by
    intro r hr hr0 hN
    obtain ⟨q, hq⟩ := hN.2
    rcases (I.fact r hr hr0).2 hN.1 with ⟨q', _, b, _⟩ | ⟨q', _, b, _⟩ | ⟨q', x, _, _, _, _, b, _, _⟩
    · rw [hq] at b; simp at b
    · rw [hq] at b; simp at b
    · exact b
  refine ⟨I.size, ?_, fun k hk => List.mem_cons_of_mem _ (I.sub k hk), I.down, hR, I.nt, I.ds, I.er, I.ext.trans hE, ?_, ?_, ?_, ?_⟩
  · intro k hk
    rcases List.mem_cons.1 hk with rfl | hk
    · exact hi
    · exact I.plt k hk
  · intro t ht
    have hti : t ∉ (ls.getD i default).dsts := ht i (by simp) hiu
    rw [putE_ne hti]
    exact I.agree t fun r hr hru => ht r (by simp [hr]) hru
  · intro r hr hru
    rcases List.mem_cons.1 hr with rfl | hr
    · exact hea
    · exact I.early r hr hru
  · intro r hr hru
    rcases List.mem_cons.1 hr with rfl | hr
    · simpa using hf
    · have hne : r ≠ i := fun hh => hip (hh ▸ hr)
      simp only [if_neg hne]
      exact (I.fact r hr hru).keep (hl r hr) (hdd r hr) hH hn
  · intro r hr hru s' hs' hsu hN1 hN2 heq
    rcases List.mem_cons.1 hr with h1 | hr2 <;> rcases List.mem_cons.1 hs' with h2 | hs2
    · rw [h1, h2]
    · subst h1
      have hne : s' ≠ r := fun hh => hip (hh ▸ hs2)
      simp only [if_true, if_neg hne] at heq
      have := hlow s' hs2 hsu (hisn s' hs2 hN2)
      have := hs hN1
      omega
    · subst h2
      have hne : r ≠ s' := fun hh => hip (hh ▸ hr2)
      simp only [if_true, if_neg hne] at heq
      have := hlow r hr2 hru (hisn r hr2 hN1)
      have := hs hN2
      omega
    · have hne : s' ≠ i := fun hh => hip (hh ▸ hs2)
      have hne2 : r ≠ i := fun hh => hip (hh ▸ hr2)
      simp only [if_neg hne, if_neg hne2] at heq
      exact I.inj r hr2 hru s' hs2 hsu (hisn r hr2 hN1) (hisn s' hs2 hN2) heq

/-- both go on -/
theorem Inv.both (I : Inv nt ls bits ι0 h0 w0 ds pre listed sl ι e eC h a w) {i : Nat} (hi : i < ls.length) (hip : i ∉ pre)
    (hb : ∀ b, (bits.getD i 0).testBit b = true → listed.getD b false = true)
    (hd : ∀ d ∈ (ls.getD i default).dsts, ∀ r ∈ pre, (d ∉ (ls.getD r default).looks ∧ d ∉ (ls.getD r default).dsts) ∨ (bits.getD i 0).testBit r = true) {v : V} {c : Value} {h' : Hp} {κ : Inj} {w' : World}
    (hE : Ext ι h w κ h' w') (hR : Rel κ h' w') (hvr : VR κ v c) (hnt : (ls.getD i default).dst.any (fun d => decide (nt ≤ d)) = false)
    (hst : ∀ r ∈ pre, listed.getD r false = false → (ls.getD r default).op.reads = true → (bits.getD i 0).testBit r = false → Still (ls.getD r default) (e.put (ls.getD i default).dst v) h'.obj) :
    Inv nt ls bits ι0 h0 w0 ds (i :: pre) (listed.setIfInBounds i true) sl κ (e.put (ls.getD i default).dst v) (eC.put (ls.getD i default).dst v) h' (a.put (ls.getD i default).dst c) w' := by
  have hjs : i < listed.size := by rw [I.size]; exact hi
  have hset := fun k => set_true hjs k false
  have hun' : ∀ r ∈ i :: pre, (listed.setIfInBounds i true).getD r false = false → r ∈ pre ∧ listed.getD r false = false := by
    intro r hr hru
    rw [hset] at hru
    split at hru
    · simp at hru
    · rename_i hne
      rcases List.mem_cons.1 hr with rfl | hr
      · exact absurd rfl hne
      · exact ⟨hr, hru⟩
  have hnb : ∀ r, listed.getD r false = false → (bits.getD i 0).testBit r = false := by
    intro r hr
    cases hh : (bits.getD i 0).testBit r with
    | false => rfl
    | true => rw [hb r hh] at hr; simp at hr
  have hd' : ∀ r ∈ pre, listed.getD r false = false → ∀ d ∈ (ls.getD i default).dsts, d ∉ (ls.getD r default).looks ∧ d ∉ (ls.getD r default).dsts := by
    intro r hr hru d hdd
    rcases hd d hdd r hr with k | k
    · exact k
    · rw [hnb r hru] at k; simp at k
  have hl : ∀ r ∈ pre, listed.getD r false = false → ∀ t ∈ (ls.getD r default).looks, e t = e.put (ls.getD i default).dst v t := by
    intro r hr hru t ht
    rw [putE_ne fun hh => (hd' r hr hru t hh).1 ht]
  have hdd : ∀ r ∈ pre, listed.getD r false = false → ∀ t ∈ (ls.getD r default).dsts, e t = e.put (ls.getD i default).dst v t := by
    intro r hr hru t ht
    rw [putE_ne fun hh => (hd' r hr hru t hh).2 ht]
  refine ⟨by simp [I.size], ?_, ?_, ?_, hR, by rw [put_size]; exact I.nt, by rw [put_defers]; exact I.ds, er_put (I.er.mono hE.le) hnt I.nt hvr, I.ext.trans hE, ?_, ?_, ?_, ?_⟩
  · intro k hk
    rcases List.mem_cons.1 hk with rfl | hk
    · exact hi
    · exact I.plt k hk
  · intro k hk
    rw [hset] at hk
    split at hk
    · rename_i hh; rw [hh]; simp
    · exact List.mem_cons_of_mem _ (I.sub k hk)
  · intro k hk j hj
    rw [hset] at hk ⊢
    split
    · rfl
    · split at hk
      · rename_i hh; subst hh; exact hb j hj
      · exact I.down k hk j hj
  · intro t ht
    by_cases hdt : t ∈ (ls.getD i default).dsts
    · rw [putE_eq hdt, putE_eq hdt]
    · rw [putE_ne hdt, putE_ne hdt]
      refine I.agree t fun r hr hru => ht r (by simp [hr]) ?_
      have hne : r ≠ i := fun hh => hip (hh ▸ hr)
      rw [hset, if_neg hne]; exact hru
  · intro r hr hru
    obtain ⟨h1, h2⟩ := hun' r hr hru
    exact I.early r h1 h2
  · intro r hr hru
    obtain ⟨h1, h2⟩ := hun' r hr hru
    exact (I.fact r h1 h2).step (hl r h1 h2) (hdd r h1 h2) hE fun hre => hst r h1 h2 hre (hnb r h2)
  · intro r hr hru s' hs' hsu hN1 hN2 heq
    obtain ⟨h1, h2⟩ := hun' r hr hru
    obtain ⟨g1, g2⟩ := hun' s' hs' hsu
    exact I.inj r h1 h2 s' g1 g2 ⟨by rw [looks_wanted (hl r h1 h2)]; exact hN1.1, hN1.2⟩ ⟨by rw [looks_wanted (hl s' g1 g2)]; exact hN2.1, hN2.2⟩ heq

/-- at the end all is as the one order has it -/
theorem Inv.over (I : Inv nt ls bits ι0 h0 w0 ds pre listed sl ι e eC h a w) (hall : ∀ i, i < ls.length → listed.getD i false = true) : ER ι e a.tmps := by
  have : eC = e := by
    funext t
    refine I.agree t fun r hr hru => ?_
    rw [hall r (I.plt r hr)] at hru; simp at hru
  rw [← this]; exact I.er

/-- who is not of the one order so far comes later in it -/
theorem orderOk_all : ∀ (rest : List Nat) (done : Nat) (pre : List Nat), orderOk ls bits done pre rest = true → ∀ j, j < ls.length → done.testBit j = true ∨ j ∈ rest
  | [], done, pre, hk, j, hj => by
    simp only [orderOk, beq_iff_eq] at hk
    left
    rw [hk, Nat.testBit_two_pow_sub_one]
    simpa using hj
  | i :: rest, done, pre, hk, j, hj => by
    simp only [orderOk, Bool.and_eq_true] at hk
    rcases orderOk_all rest _ _ hk.2 j hj with k | k
    · rw [Nat.testBit_or, Nat.testBit_two_pow] at k
      simp only [Bool.or_eq_true, decide_eq_true_eq] at k
      rcases k with k | k
      · exact .inl k
      · exact .inr (by simp [k])
    · exact .inr (by simp [k])

theorem orderOk_step {done : Nat} {pre : List Nat} {i : Nat} {rest : List Nat} (hk : orderOk ls bits done pre (i :: rest) = true) :
    i < ls.length ∧ done.testBit i = false ∧
    (∀ d ∈ (ls.getD i default).dsts, ∀ r ∈ pre, (d ∉ (ls.getD r default).looks ∧ d ∉ (ls.getD r default).dsts) ∨ (Ab.early ls bits i = false ∧ (bits.getD i 0).testBit r = true)) ∧
    (Ab.early ls bits i = true ∨ ∀ j ∈ rest, within (bits.getD j 0) done = false) ∧ orderOk ls bits (done ||| 2 ^ i) (i :: pre) rest = true := by
  simp only [orderOk, Bool.and_eq_true, decide_eq_true_eq, Bool.not_eq_true', List.all_eq_true, Bool.or_eq_true] at hk
  obtain ⟨⟨⟨⟨a, b⟩, c⟩, d⟩, e⟩ := hk
  refine ⟨a, b, fun x hx r hr => ?_, d, e⟩
  rcases c x hx r hr with k | k
  · left
    have := k
    simp only [List.contains_eq_mem, decide_eq_false_iff_not, List.mem_append, not_or] at this
    exact this
  · exact .inr k

end
end Go.Ab
