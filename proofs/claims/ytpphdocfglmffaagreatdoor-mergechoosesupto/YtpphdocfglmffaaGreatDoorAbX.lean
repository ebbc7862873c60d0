/- A drawn region: whatever order is drawn, it comes to what the one order comes to. -/
import Derived.Test.YtpphdocfglmffaaGreatDoorAbW
set_option linter.unusedVariables false
set_option linter.unusedSimpArgs false
namespace Go.Ab
open Go.RowKit (Below)

section
variable {P : Program} {ι : Inj} {w : World} {h : Hp} {e : Env}

/-- what is known of an operation that the one order has done, and the drawn order has not -/
def Fact (ι : Inj) (e : Env) (h : Hp) (m s : Nat) (o : AOp) : Prop :=
  (wanted e o.guard = false → ∀ d ∈ o.dsts, e d = und) ∧
  (wanted e o.guard = true →
    (∃ q v, o.op = .p q ∧ q.ev e = some v ∧ ∀ d ∈ o.dsts, e d = v) ∨
    (∃ q v, o.op = .r q ∧ q.ev e h.obj = some v ∧ ∀ d ∈ o.dsts, e d = v) ∨
    (∃ q x, o.op = .n q ∧ q.ev e = some x ∧ h.obj s = some x.1 ∧ m ≤ s ∧ s < h.nx ∧ Free ι s ∧ ∀ d ∈ o.dsts, e d = x.2 s))

theorem looks_ts {o : AOp} {t : Nat} (ht : t ∈ o.op.ts) : t ∈ o.looks := List.mem_append_left _ ht

theorem looks_wanted {o : AOp} {e e' : Env} (hl : ∀ t ∈ o.looks, e t = e' t) : wanted e o.guard = wanted e' o.guard := by
  refine wanted_congr fun d w hg => hl d ?_
  unfold AOp.looks; rw [hg]; simp

theorem Fact.keep {m s : Nat} {o : AOp} {e' : Env} {h' : Hp} (k : Fact ι e h m s o) (hl : ∀ t ∈ o.looks, e t = e' t) (hd : ∀ t ∈ o.dsts, e t = e' t) (hH : Obs.le h.obj h'.obj) (hn : h.nx ≤ h'.nx) : Fact ι e' h' m s o := by
  obtain ⟨k1, k2⟩ := k
  have hw := looks_wanted hl
  refine ⟨fun hf d hdd => by rw [← hd d hdd]; exact k1 (by rw [hw]; exact hf) d hdd, fun ht => ?_⟩
  rcases k2 (by rw [hw]; exact ht) with ⟨q, v, a, b, c⟩ | ⟨q, v, a, b, c⟩ | ⟨q, x, a, b, c, x1, x2, x3, d⟩
  · refine .inl ⟨q, v, a, ?_, fun d hdd => by rw [← hd d hdd]; exact c d hdd⟩
    rw [← P1.congr (fun t ht => hl t (looks_ts (by rw [a]; exact ht)))]; exact b
  · refine .inr (.inl ⟨q, v, a, ?_, fun d hdd => by rw [← hd d hdd]; exact c d hdd⟩)
    rw [← R1.congr (fun t ht => hl t (looks_ts (by rw [a]; exact ht)))]; exact R1.mono hH b
  · refine .inr (.inr ⟨q, x, a, ?_, hH _ _ c, x1, by omega, x3, fun d' hdd => by rw [← hd d' hdd]; exact d d' hdd⟩)
    rw [← N1.congr (fun t ht => hl t (looks_ts (by rw [a]; exact ht)))]; exact b

theorem Fact.step {m s : Nat} {o : AOp} {e' : Env} {h' : Hp} {κ : Inj} {w' : World} (k : Fact ι e h m s o) (hl : ∀ t ∈ o.looks, e t = e' t) (hd : ∀ t ∈ o.dsts, e t = e' t) (hE : Ext ι h w κ h' w') (hst : o.op.reads = true → Still o e' h'.obj) : Fact κ e' h' m s o := by
  obtain ⟨k1, k2⟩ := k
  have hw := looks_wanted hl
  refine ⟨fun hf d hdd => by rw [← hd d hdd]; exact k1 (by rw [hw]; exact hf) d hdd, fun ht => ?_⟩
  rcases k2 (by rw [hw]; exact ht) with ⟨q, v, a, b, c⟩ | ⟨q, v, a, b, c⟩ | ⟨q, x, a, b, c, x1, x2, x3, d⟩
  · refine .inl ⟨q, v, a, ?_, fun d hdd => by rw [← hd d hdd]; exact c d hdd⟩
    rw [← P1.congr (fun t ht => hl t (looks_ts (by rw [a]; exact ht)))]; exact b
  · obtain ⟨v', b', c'⟩ := hst (by rw [a]; rfl) ht q a
    exact .inr (.inl ⟨q, v', a, b', c'⟩)
  · obtain ⟨y1, y2, y3⟩ := hE.un s x2 x3.1 x3.2
    refine .inr (.inr ⟨q, x, a, ?_, by rw [y3]; exact c, x1, Nat.lt_of_lt_of_le x2 hE.nx, ⟨y1, y2⟩, fun d' hdd => by rw [← hd d' hdd]; exact d d' hdd⟩)
    rw [← N1.congr (fun t ht => hl t (looks_ts (by rw [a]; exact ht)))]; exact b

def IsN (e : Env) (o : AOp) : Prop := wanted e o.guard = true ∧ ∃ q, o.op = .n q

/-- where the one order stands, and where the drawn one -/
structure Inv (nt : Nat) (ls : List AOp) (bits : List Nat) (ι0 : Inj) (h0 : Hp) (w0 : World) (ds : List Deferred) (pre : List Nat) (listed : Array Bool) (sl : Nat → Nat) (ι : Inj) (e eC : Env) (h : Hp) (a : Act) (w : World) : Prop where
  size : listed.size = ls.length
  plt : ∀ i ∈ pre, i < ls.length
  sub : ∀ i, listed.getD i false = true → i ∈ pre
  down : ∀ i, listed.getD i false = true → ∀ j, (bits.getD i 0).testBit j = true → listed.getD j false = true
  rel : Rel ι h w
  nt : nt ≤ a.tmps.size
  ds : a.defers = ds
  er : ER ι eC a.tmps
  ext : Ext ι0 h0 w0 ι h w
  agree : ∀ t, (∀ r ∈ pre, listed.getD r false = false → t ∉ (ls.getD r default).dsts) → eC t = e t
  early : ∀ r ∈ pre, listed.getD r false = false → Ab.early ls bits r = true
  fact : ∀ r ∈ pre, listed.getD r false = false → Fact ι e h h0.nx (sl r) (ls.getD r default)
  inj : ∀ r ∈ pre, listed.getD r false = false → ∀ s ∈ pre, listed.getD s false = false → IsN e (ls.getD r default) → IsN e (ls.getD s default) → sl r = sl s → r = s

variable {nt : Nat} {ops : Array Oper} {ls : List AOp} {bits : List Nat} {ι0 : Inj} {h0 : Hp} {w0 : World} {ds : List Deferred} {pre : List Nat} {listed : Array Bool} {sl : Nat → Nat} {eC : Env} {a : Act}

theorem set_true {j : Nat} (hj : j < listed.size) (i : Nat) (d : Bool) : (listed.setIfInBounds j true).getD i d = if i = j then true else listed.getD i d := by
  by_cases h : i = j
  · subst h; simp [hj]
  · rw [getD_set_ne d (fun hh => h hh.symm), if_neg h]

theorem ready_spec (S : Static P nt ops ls bits) (I : Inv nt ls bits ι0 h0 w0 ds pre listed sl ι e eC h a w) {j : Nat} (hj : j ∈ Region.ready .any ops listed) :
    j < ls.length ∧ listed.getD j false = false ∧ (∀ b, (bits.getD j 0).testBit b = true → listed.getD b false = true) ∧ ∃ o, ops[j]? = some o ∧ cOper P nt ops o = some (ls.getD j default) := by
  obtain ⟨hun, o, ho, hall⟩ := mem_ready.1 hj
  have hlt : j < ls.length := by rw [S.len]; exact (Array.getElem?_eq_some_iff.1 ho).1
  have hlt' : j < listed.size := by rw [I.size]; exact hlt
  refine ⟨hlt, by simpa [hlt'] using hun, fun b hb => ?_, ?_⟩
  · obtain ⟨x, hx, hbd, hcase⟩ := S.cl j o ho b hb
    have := hall x hx hbd
    rcases hcase with rfl | hcase
    · exact this
    · exact I.down _ this _ hcase
  · obtain ⟨o', ho', hc⟩ := S.at' j hlt
    rw [ho] at ho'; simp at ho'; subst ho'
    exact ⟨o, ho, hc⟩

/-- what an operation looks at is as the one order has it -/
theorem looks_agree (S : Static P nt ops ls bits) (I : Inv nt ls bits ι0 h0 w0 ds pre listed sl ι e eC h a w) {j : Nat} (hlt : j < ls.length) (hb : ∀ b, (bits.getD j 0).testBit b = true → listed.getD b false = true) : ∀ t ∈ (ls.getD j default).looks, eC t = e t := by
  intro t ht
  refine I.agree t fun r hr hun hd => ?_
  rcases S.wr j hlt t ht r (I.plt r hr) hd with h1 | h1
  · rw [hb r h1] at hun; simp at hun
  · rw [I.early r hr hun] at h1; simp at h1

theorem Inv.late (I : Inv nt ls bits ι0 h0 w0 ds pre listed sl ι e eC h a w) {j : Nat} (hj : j ∈ pre) (hun : listed.getD j false = false) (hb : ∀ b, (bits.getD j 0).testBit b = true → listed.getD b false = true)
    {v : V} {c : Value} {κ : Inj} {w' : World} (hv : ∀ d ∈ (ls.getD j default).dsts, e d = v) (hle : ι.le κ) (hR : Rel κ h w') (hE : Ext ι0 h0 w0 κ h w') (hvr : VR κ v c) (hnt : (ls.getD j default).dst.any (fun d => decide (nt ≤ d)) = false)
    (hfree : ∀ r ∈ pre, r ≠ j → listed.getD r false = false → IsN e (ls.getD r default) → Free κ (sl r)) :
    Inv nt ls bits ι0 h0 w0 ds pre (listed.setIfInBounds j true) sl κ e (eC.put (ls.getD j default).dst v) h (a.put (ls.getD j default).dst c) w' := by
  have hjs : j < listed.size := by rw [I.size]; exact I.plt j hj
  have hset := fun i => set_true hjs i false
  have hun' : ∀ r, (listed.setIfInBounds j true).getD r false = false → r ≠ j ∧ listed.getD r false = false := by
    intro r hr
    rw [hset] at hr
    split at hr
    · simp at hr
    · rename_i hne; exact ⟨hne, hr⟩
  refine ⟨by simp [I.size], I.plt, ?_, ?_, hR, by rw [put_size]; exact I.nt, by rw [put_defers]; exact I.ds, er_put (I.er.mono hle) hnt I.nt hvr, hE, ?_, ?_, ?_, ?_⟩
  · intro i hi
    rw [hset] at hi
    split at hi
    · rename_i hh; rw [hh]; exact hj
    · exact I.sub i hi
  · intro i hi k hk
    rw [hset] at hi ⊢
    split
    · rfl
    · split at hi
      · rename_i hh; subst hh; exact hb k hk
      · exact I.down i hi k hk
  · intro t ht
    by_cases hd : t ∈ (ls.getD j default).dsts
    · rw [putE_eq hd]; exact (hv t hd).symm
    · rw [putE_ne hd]
      refine I.agree t fun r hr hrun => ?_
      by_cases hrj : r = j
      · subst hrj; exact hd
      · exact ht r hr (by rw [hset, if_neg hrj]; exact hrun)
  · intro r hr hrun; exact I.early r hr (hun' r hrun).2
  · intro r hr hrun
    obtain ⟨hne, hr0⟩ := hun' r hrun
    obtain ⟨k1, k2⟩ := I.fact r hr hr0
    refine ⟨k1, fun ht => ?_⟩
    rcases k2 ht with k | k | ⟨q, x, b1, b2, b3, b4, b5, b6, b7⟩
    · exact .inl k
    · exact .inr (.inl k)
    · exact .inr (.inr ⟨q, x, b1, b2, b3, b4, b5, hfree r hr hne hr0 ⟨ht, q, b1⟩, b7⟩)
  · intro r hr h1 s hs h2; exact I.inj r hr (hun' r h1).2 s hs (hun' s h2).2

theorem Ext.transL {κ : Inj} {k : Hp} {u x : World} {s : Nat} (hE : Ext ι0 h0 w0 ι h u) (hL : LExt s ι h u κ k x) (hs : h0.nx ≤ s) : Ext ι0 h0 w0 κ k x where
  le := hE.le.trans hL.le
  os := hL.os.trans hE.os
  tape := hL.tape.trans hE.tape
  output := hL.output.trans hE.output
  drawn := Nat.le_trans hE.drawn hL.drawn
  size := Nat.le_trans hE.size hL.size
  nx := Nat.le_trans hE.nx hL.nx
  ro := fun i hi r => by
    obtain ⟨r1, e1⟩ := hE.ro i hi r
    obtain ⟨r2, e2⟩ := hL.ro i (Nat.lt_of_lt_of_le hi hE.size) r1
    exact ⟨r2, e2.trans e1⟩
  un := fun i hi p q => by
    obtain ⟨p1, q1, e1⟩ := hE.un i hi p q
    obtain ⟨p2, q2, e2⟩ := hL.un i (by omega)
    exact ⟨fun g => by rw [p2, p1], by rw [q2, q1], e2.trans e1⟩
  new := fun i g L hl hn hi => by
    obtain ⟨p2, _, _⟩ := hL.un i (by omega)
    rw [p2] at hl
    exact hE.new i g L hl hn hi
  newob := fun i c hc hn => by
    by_cases hi : i = s
    · omega
    · rw [(hL.un i hi).2.1] at hc
      exact hE.newob i c hc hn

/-- one that the one order has done already -/
theorem draw_late (S : Static P nt ops ls bits) (I : Inv nt ls bits ι0 h0 w0 ds pre listed sl ι e eC h a w) {j : Nat} (hj : j ∈ Region.ready .any ops listed) (hp : j ∈ pre) {K : Act → World → Prop} {Qc : Exit → Act → World → Prop}
    (hK : ∀ κ eC' a' w', Inv nt ls bits ι0 h0 w0 ds pre (listed.setIfInBounds j true) sl κ e eC' h a' w' → K a' w') : wpOp P ops Qc j K a w := by
  obtain ⟨hlt, hun, hb, o, ho, hc⟩ := ready_spec S I hj
  obtain ⟨c1, c2, c3, c4⟩ := cOper_inv hc
  have hl := looks_agree S I hlt hb
  have hw := looks_wanted hl
  obtain ⟨f1, f2⟩ := I.fact j hp hun
  have hnt : (ls.getD j default).dst.any (fun d => decide (nt ≤ d)) = false := by rw [c1]; exact c2
  unfold wpOp
  simp only [ho, wanted_rel I.er c3, hw]
  have hρ : ∀ x y, cOpd x = some y → VR ι (y.val eC) (a.eval x) := fun x y hxy => opd_rel I.er hxy
  have same : ∀ r ∈ pre, r ≠ j → listed.getD r false = false → IsN e (ls.getD r default) → Free ι (sl r) := by
    intro r hr _ hr0 hN
    obtain ⟨q, hq⟩ := hN.2
    rcases (I.fact r hr hr0).2 hN.1 with ⟨q', _, b, _⟩ | ⟨q', _, b, _⟩ | ⟨q', x, _, _, _, _, _, b, _⟩
    · rw [hq] at b; simp at b
    · rw [hq] at b; simp at b
    · exact b
  split
  · rename_i hwt
    left
    unfold Oper.wp
    rcases f2 hwt with ⟨q, v, b1, b2, b3⟩ | ⟨q, v, b1, b2, b3⟩ | ⟨q, x, b1, b2, b3, b4, b5, b6, b7⟩
    · have hq := cOper_op hc (by rw [b1]; simp)
      rw [b1] at hq
      rw [← P1.congr (fun t ht => hl t (looks_ts (by rw [b1]; exact ht)))] at b2
      obtain ⟨c, hrun, hvr⟩ := p1_sound (P := P) (w := w) hρ hq b2
      rw [hrun, Oper.upon_value, ← c1]
      exact hK _ _ _ _ (I.late hp hun hb b3 (Inj.le.refl _) I.rel I.ext hvr hnt same)
    · have hq := cOper_op hc (by rw [b1]; simp)
      rw [b1] at hq
      rw [← R1.congr (fun t ht => hl t (looks_ts (by rw [b1]; exact ht)))] at b2
      obtain ⟨c, hrun, hvr⟩ := r1_sound (P := P) (w := w) I.rel hρ (fun _ => rfl) hq b2
      rw [hrun, Oper.upon_value, ← c1]
      exact hK _ _ _ _ (I.late hp hun hb b3 (Inj.le.refl _) I.rel I.ext hvr hnt same)
    · have hq := cOper_op hc (by rw [b1]; simp)
      rw [b1] at hq
      rw [← N1.congr (fun t ht => hl t (looks_ts (by rw [b1]; exact ht)))] at b2
      obtain ⟨nx, c, u, κ, hrun, hnx, hvr, hR, hL⟩ := n1_lay (P := P) (w := w) I.rel b6 hρ (fun _ => rfl) hq b2
      rw [Hp.lay_same b3 b5] at hR hL
      have hfree : ∀ r ∈ pre, r ≠ j → listed.getD r false = false → IsN e (ls.getD r default) → Free κ (sl r) := by
        intro r hr hne hr0 hN
        have hf := same r hr hne hr0 hN
        have hsl : sl r ≠ sl j := fun hh => hne (I.inj r hr hr0 j hp hun hN ⟨hwt, q, b1⟩ hh)
        obtain ⟨y1, y2, _⟩ := hL.un (sl r) hsl
        exact ⟨fun g => by rw [y1, hf.1], by rw [y2, hf.2]⟩
      have hI := I.late (c := c) hp hun hb b7 hL.le hR (Ext.transL I.ext hL b4) hvr hnt hfree
      rw [hrun]
      rcases hnx with rfl | ⟨rfl, rfl⟩
      · rw [Oper.upon_value, ← c1]; exact hK _ _ _ _ hI
      · rw [Oper.upon_skip, ← c1]; exact hK _ _ _ _ hI
  · rename_i hwf
    rw [← c1]
    exact hK _ _ _ _ (I.late hp hun hb (f1 (by simpa using hwf)) (Inj.le.refl _) I.rel I.ext und_rel hnt same)

end
end Go.Ab
