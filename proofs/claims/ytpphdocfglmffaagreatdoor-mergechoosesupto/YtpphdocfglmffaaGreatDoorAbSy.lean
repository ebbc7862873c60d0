/- Heaps that grow; slices that are appended to; variables of the call's own. -/
import Derived.Test.YtpphdocfglmffaaGreatDoorAbSx
set_option linter.unusedVariables false
set_option linter.unusedSimpArgs false
namespace Go.Ab

def Hp.ok (h : Hp) : Prop := ∀ i o, h.obj i = some o → i < h.nx
/-- all that was there is as it was -/
structure Hp.le (h k : Hp) : Prop where
  nx : h.nx ≤ k.nx
  obj : ∀ i, i < h.nx → k.obj i = h.obj i

theorem Hp.le.refl (h : Hp) : h.le h := ⟨Nat.le_refl _, fun _ _ => rfl⟩
theorem Hp.le.trans {h k l : Hp} (a : h.le k) (b : k.le l) : h.le l := ⟨Nat.le_trans a.nx b.nx, fun i hi => (b.obj i (Nat.lt_of_lt_of_le hi a.nx)).trans (a.obj i hi)⟩
theorem Hp.le.obs {h k : Hp} (a : h.le k) (ok : h.ok) : Obs.le h.obj k.obj := fun s o hs => (a.obj s (ok s o hs)).trans hs
theorem Hp.le.rle {h k : Hp} (a : h.le k) (ok : h.ok) : RLe h.obj k.obj := fun _ _ _ _ _ hr => rdAt_mono (a.obs ok) hr
@[simp] theorem Hp.new_nx (h : Hp) (o : Ob) : (h.new o).nx = h.nx + 1 := nr rfl
@[simp] theorem Hp.set_nx (h : Hp) (i : Nat) (o : Ob) : (h.set i o).nx = h.nx := nr rfl
@[simp] theorem Hp.new_obj (h : Hp) (o : Ob) (j : Nat) : (h.new o).obj j = if j = h.nx then some o else h.obj j := nr rfl
@[simp] theorem Hp.set_obj (h : Hp) (i : Nat) (o : Ob) (j : Nat) : (h.set i o).obj j = if j = i then some o else h.obj j := nr rfl
theorem Hp.le_new (h : Hp) (o : Ob) : h.le (h.new o) := ⟨Nat.le_succ _, fun i hi => by simp; omega⟩
theorem Hp.ok.new {h : Hp} (k : h.ok) (o : Ob) : (h.new o).ok := fun i x hx => by
  simp only [Hp.new_obj] at hx
  split at hx
  · rename_i hh; subst hh; exact Nat.lt_succ_self _
  · exact Nat.lt_succ_of_lt (k i x hx)
theorem Hp.ok.set {h : Hp} (k : h.ok) {i : Nat} (hi : i < h.nx) (o : Ob) : (h.set i o).ok := fun j x hx => by
  simp only [Hp.set_obj] at hx
  split at hx
  · rename_i hh; subst hh; exact hi
  · exact k j x hx
theorem Hp.le.set {h0 h : Hp} (k : h0.le h) {i : Nat} (hi : h0.nx ≤ i) (o : Ob) : h0.le (h.set i o) := ⟨k.nx, fun j hj => by rw [Hp.set_obj, if_neg (by omega)]; exact k.obj j hj⟩
theorem Hp.le.new {h0 h : Hp} (k : h0.le h) (o : Ob) : h0.le (h.new o) := k.trans (Hp.le_new h o)
@[simp] theorem Hp.set_new (h : Hp) (o o' : Ob) : (h.new o).set h.nx o' = h.new o' := by
  simp only [Hp.set, Hp.new, Hp.mk.injEq, and_true]
  funext j
  split <;> rfl

/- VARIABLES OF THE CALL'S OWN -/
def Var (h : Hp) (i : Nat) (cs : List V) : Prop := h.obj i = some (.sto cs [] 0 none)
theorem rdC_plain (cs : List V) (o n : Nat) : rdCells cs [] 0 0 o n = if o + n ≤ cs.length then some ((cs.drop o).take n) else none := by
  simp [rdCells, genSize]
theorem Var.load {h : Hp} {i : Nat} {cs : List V} (k : Var h i cs) (o : Nat) : loadV h.obj none (.ptr i 0 o) = cs[o]? := by
  unfold Var at k
  simp only [loadV, rdVar, rdAt, k, rdC_plain]
  by_cases ho : o < cs.length
  · rw [if_pos (by omega), List.drop_eq_getElem_cons ho, List.getElem?_eq_getElem ho]; rfl
  · rw [if_neg (by omega), List.getElem?_eq_none (by omega)]
theorem Var.loads {h : Hp} {i : Nat} {cs : List V} (k : Var h i cs) (o n : Nat) : loadV h.obj (some n) (.ptr i 0 o) = if o + n ≤ cs.length then some (.agg ((cs.drop o).take n)) else none := by
  unfold Var at k
  simp only [loadV, rdVar, rdAt, k, rdC_plain]
  split <;> rfl
theorem Var.le {h k : Hp} {i : Nat} {cs : List V} (v : Var h i cs) (l : h.le k) (hi : i < h.nx) : Var k i cs := (l.obj i hi).trans v
theorem var_new (h : Hp) (cs : List V) : Var (h.new (.sto cs [] 0 none)) h.nx cs := by simp [Var]
@[simp] theorem load_new (h : Hp) (cs : List V) (o : Nat) : loadV (h.new (.sto cs [] 0 none)).obj none (.ptr h.nx 0 o) = cs[o]? := (var_new h cs).load o
@[simp] theorem loads_new (h : Hp) (cs : List V) (o n : Nat) : loadV (h.new (.sto cs [] 0 none)).obj (some n) (.ptr h.nx 0 o) = if o + n ≤ cs.length then some (.agg ((cs.drop o).take n)) else none := (var_new h cs).loads o n
theorem var_set (h : Hp) (i : Nat) (cs : List V) : Var (h.set i (.sto cs [] 0 none)) i cs := by simp [Var]

@[simp] theorem ev_alloc (e : Env) (zero : List V) : N1.ev e (.alloc zero) = some (.sto zero [] 0 none, fun i => .ptr i 0 0) := nr rfl
@[simp] theorem ev_box (e : Env) (x : Opd) : N1.ev e (.box x) = some (.sto (x.val e).cells [] 0 none, fun i => .ptr i 0 0) := nr rfl
@[simp] theorem ev_bslice (e : Env) (sz : Nat) (cells : List V) (ln : Nat) (parts : List (Nat × Nat × Opd)) :
    N1.ev e (.bslice sz cells ln parts) = (fills cells (parts.map fun x => (x.1, x.2.1, x.2.2.val e))).map fun cs => (.sto cs [] 0 none, fun i => .slc i 0 0 ln ln sz) := by
  simp only [N1.ev, fillAll_fills]

def stoHM (sz : Nat) (p v : V) : HM := match p with
  | .ptr s g o => .get s fun ob => match ob with
    | .sto cells old dirty esz =>
      if v.cells.length = sz then (match wrAt cells old dirty esz g o v.cells with | some o' => .set s o' (.ret und) | none => .fail) else .fail
    | _ => .fail
  | _ => .fail
@[simp] theorem ev_store (e : Env) (sz : Nat) (a x : Opd) : E1.ev e (.store sz a x) = stoHM sz (a.val e) (x.val e) := nr rfl
theorem Var.store {h : Hp} {i : Nat} {cs : List V} (k : Var h i cs) (sz o : Nat) (v : V) (K : V → Hp → Prop) :
    run (hmW (stoHM sz (.ptr i 0 o) v) h K) = run (gets (if v.cells.length = sz ∧ o + v.cells.length ≤ cs.length ∧ v.cells.all V.leaf = true then some (h.set i (.sto (over cs o v.cells) [] 0 none)) else none) fun h' => K und h') := by
  unfold Var at k
  unfold run
  simp only [stoHM, hmW_get, k, gets_some]
  by_cases h1 : v.cells.length = sz
  · rw [if_pos h1]
    by_cases h2 : o + v.cells.length ≤ cs.length ∧ v.cells.all V.leaf = true
    · rw [if_pos ⟨h1, h2⟩]
      simp only [wrAt, List.length_nil, true_and]
      rw [if_pos h2]
      simp [hmW_set, hmW_ret, gets_some]
    · rw [if_neg (fun x => h2 x.2)]
      have : wrAt cs [] 0 none 0 o v.cells = none := by
        unfold wrAt; rw [if_neg]; intro x; exact h2 x.2
      simp only [this, hmW_fail, gets_none]
  · rw [if_neg h1, if_neg (fun x => h1 x.1)]; simp only [hmW_fail, gets_none]
@[simp] theorem store_new (h : Hp) (cs : List V) (sz o : Nat) (v : V) (K : V → Hp → Prop) :
    run (hmW (stoHM sz (.ptr h.nx 0 o) v) (h.new (.sto cs [] 0 none)) K) = run (gets (if v.cells.length = sz ∧ o + v.cells.length ≤ cs.length ∧ v.cells.all V.leaf = true then some (h.new (.sto (over cs o v.cells) [] 0 none)) else none) fun h' => K und h') := by
  rw [(var_new h cs).store, Hp.set_new]

theorem load_new_eq {h : Hp} {cs : List V} {i : Nat} (hi : i = h.nx) (o : Nat) : loadV (h.new (.sto cs [] 0 none)).obj none (.ptr i 0 o) = cs[o]? := by subst hi; exact load_new h cs o
theorem loads_new_eq {h : Hp} {cs : List V} {i : Nat} (hi : i = h.nx) (o n : Nat) : loadV (h.new (.sto cs [] 0 none)).obj (some n) (.ptr i 0 o) = if o + n ≤ cs.length then some (.agg ((cs.drop o).take n)) else none := by subst hi; exact loads_new h cs o n
theorem load_new_ne {h : Hp} {ob : Ob} {i : Nat} (hi : i ≠ h.nx) (sz : Option Nat) (g o : Nat) : loadV (h.new ob).obj sz (.ptr i g o) = loadV h.obj sz (.ptr i g o) := by
  have e : ∀ n, rdAt (h.new ob).obj i g o n = rdAt h.obj i g o n := fun n => by simp only [rdAt, Hp.new_obj, if_neg hi]
  cases sz <;> simp only [loadV, rdVar, e]
theorem Var.put {h : Hp} {i : Nat} {cs : List V} (k : Var h i cs) {sz o : Nat} {v : V} {K : V → Hp → Prop} (cs' : List V) (h1 : v.cells.length = sz) (h2 : o + v.cells.length ≤ cs.length) (h3 : v.cells.all V.leaf = true) (he : over cs o v.cells = cs')
    (q : ∀ h', Var h' i cs' → h' = h.set i (.sto cs' [] 0 none) → run (K und h')) : run (hmW (stoHM sz (.ptr i 0 o) v) h K) := by
  rw [k.store, if_pos ⟨h1, h2, h3⟩, run_gets_some, he]
  exact q _ (var_set h i cs') rfl

/- SLICES THAT ARE APPENDED TO -/
structure Grow (h : Hp) (sz : Nat) (a : V) (rows : List (List V)) : Prop where
  sl : Sl h.obj sz a rows
  own : a = .nslc ∨ ∃ s g o cells old dirty esz, a = .slc s g o rows.length rows.length sz ∧ h.obj s = some (.sto cells old dirty esz) ∧ g = old.length ∧ (esz = none ∨ (0 < rows.length ∧ esz = some sz))

/-- what an append has done -/
structure App (h : Hp) (a : V) (k : Hp) (b : V) : Prop where
  nx : h.nx ≤ k.nx
  same : ∀ i, i < h.nx → (a = .nslc ∨ i ≠ a.sS) → k.obj i = h.obj i
  place : b = .nslc ∨ (a ≠ .nslc ∧ b.sS = a.sS) ∨ h.nx ≤ b.sS
  rle : RLe h.obj k.obj
  ok : k.ok

def appHM (sz bytes : Nat) (s x : V) : HM :=
    if sz = 0 then .fail else
    match s with
    | .nslc => srcCells x sz fun n vs =>
        if n = 0 then .ret .nslc else if n * bytes ≤ 1099511627776 then .new (.sto vs [] 0 (some sz)) fun i => .ret (.slc i 0 0 n n sz) else .fail
    | .slc t g o len cap z => if z ≠ sz then .fail else srcCells x sz fun n vs =>
      .get t fun ob => match ob with
      | .sto cells old dirty esz =>
        if len + n ≤ cap then
          (if n = 0 then .ret (.slc t g o len cap sz) else
           match wrAt cells old dirty esz g (o + len * sz) vs with
           | some o' => .set t o' (.ret (.slc t g o (len + n) cap sz))
           | none => .fail)
        else if (len + n) * bytes ≤ 1099511627776 then
          match rdCells cells old dirty g o (len * sz) with
          | none => .fail
          | some us =>
            if esz = none ∨ (g = old.length ∧ esz = some sz ∧ o + cap * sz < cells.length) then
              .new (.sto (us ++ vs) [] 0 (some sz)) fun i => .ret (.slc i 0 0 (len + n) (len + n) sz)
            else if 0 < cap ∧ g = old.length ∧ esz = some sz ∧ vs.all V.leaf = true then
              .set t (.sto (cells.take (o + len * sz) ++ vs) (cells.length :: old) (if len = cap then dirty else old.length + 1) esz) (.ret (.slc t (old.length + 1) o (len + n) (len + n) sz))
            else .fail
        else .fail
      | _ => .fail
    | _ => .fail
@[simp] theorem ev_append (e : Env) (sz bytes : Nat) (s x : Opd) : E1.ev e (.append sz bytes s x) = appHM sz bytes (s.val e) (x.val e) := nr rfl

theorem rdAt_some {H : Obs} {s g o n : Nat} {vs : List V} (h : rdAt H s g o n = some vs) : ∃ cells old dirty esz, H s = some (.sto cells old dirty esz) ∧ rdCells cells old dirty g o n = some vs := by
  unfold rdAt at h
  split at h
  · rename_i cells old dirty esz hs; exact ⟨cells, old, dirty, esz, hs, h⟩
  · simp at h

/-- the cells of what is appended -/
theorem src_rule {h : Hp} {sz : Nat} {x : V} {rows : List (List V)} (hx : Sl h.obj sz x rows) {k : Nat → List V → HM} {K : V → Hp → Prop} (q : hmW (k rows.length rows.flatten) h K) : hmW (srcCells x sz k) h K := by
  rcases hx.shape with ⟨rfl, rfl⟩ | ⟨s, g, o, c, rfl, _, hrd⟩
  · exact q
  · obtain ⟨cells, old, dirty, esz, hs, hr⟩ := rdAt_some hrd
    simp only [srcCells, hmW_get, hs, gets_some, hr]
    exact q

theorem flat_leaf {rows : List (List V)} (h : ∀ r ∈ rows, r.all V.leaf = true) : rows.flatten.all V.leaf = true := by
  rw [List.all_eq_true]
  intro v hv
  obtain ⟨r, hr, hv⟩ := List.mem_flatten.1 hv
  exact List.all_eq_true.1 (h r hr) v hv

theorem rdCells_grow {cells vs : List V} {old : List Nat} {dirty g o n : Nat} {us : List V} (h : rdCells cells old dirty g o n = some us) : rdCells (cells ++ vs) (cells.length :: old) dirty g o n = some us := by
  obtain ⟨h1, h2, h3, rfl⟩ := rdCells_some h
  have hg : o + n ≤ genSize (cells ++ vs) (cells.length :: old) g := by
    by_cases hh : g ≤ old.length
    · rw [genSize_old hh]; exact h2
    · have : genSize cells old g = 0 := by unfold genSize; rw [if_neg (by omega), if_neg (by omega)]
      omega
  unfold rdCells
  rw [if_pos ⟨h1, hg, by rw [List.length_append]; omega⟩, List.drop_append, List.take_append]
  rw [show n - (cells.drop o).length = 0 by rw [List.length_drop]; omega]
  simp

theorem Sl.lim_of_cells {n bytes : Nat} (hb : 0 < bytes) (h : n * bytes ≤ 1099511627776) : n ≤ 140737488355328 := by
  have := Nat.le_mul_of_pos_right n hb
  omega

theorem app_rule {h : Hp} {sz bytes : Nat} {a x : V} {rows more : List (List V)} {K : V → Hp → Prop} (ok : h.ok) (ha : Grow h sz a rows) (hx : Sl h.obj sz x more) (hsz : 0 < sz) (hby : 0 < bytes)
    (hb : (rows.length + more.length) * bytes ≤ 1099511627776) (k : ∀ b h', Grow h' sz b (rows ++ more) → App h a h' b → run (K b h')) : run (hmW (appHM sz bytes a x) h K) := by
  unfold run at k ⊢
  have hz : sz ≠ 0 := by omega
  have hxl := flat_len hx.len
  have hall : ∀ r ∈ rows ++ more, r.length = sz := fun r hr => by
    rcases List.mem_append.1 hr with hr | hr
    · exact ha.sl.len r hr
    · exact hx.len r hr
  have hleaf : ∀ r ∈ rows ++ more, r.all V.leaf = true := fun r hr => by
    rcases List.mem_append.1 hr with hr | hr
    · exact ha.sl.leaf r hr
    · exact hx.leaf r hr
  have hlim : (rows ++ more).length ≤ 140737488355328 := by rw [List.length_append]; exact Sl.lim_of_cells hby hb
  have hnew : 0 < (rows ++ more).length → Grow (h.new (.sto (rows ++ more).flatten [] 0 (some sz))) sz (.slc h.nx 0 0 (rows ++ more).length (rows ++ more).length sz) (rows ++ more) := by
    intro hpos
    refine ⟨⟨.inr ⟨_, _, _, _, rfl, Nat.le_refl _, ?_⟩, hall, hleaf, hlim⟩, .inr ⟨h.nx, 0, 0, (rows ++ more).flatten, [], 0, some sz, rfl, by simp, rfl, .inr ⟨hpos, rfl⟩⟩⟩
    have := flat_len hall
    simp only [rdAt, Hp.new_obj, if_true, rdC_plain]
    rw [if_pos (by omega), List.drop_zero, List.take_of_length_le (by omega)]
  have happ : App h a (h.new (.sto (rows ++ more).flatten [] 0 (some sz))) (.slc h.nx 0 0 (rows ++ more).length (rows ++ more).length sz) :=
    ⟨Nat.le_succ _, fun i hi _ => by simp; omega, .inr (.inr (Nat.le_refl _)), (Hp.le_new h _).rle ok, ok.new _⟩
  unfold appHM
  rw [if_neg hz]
  rcases ha.sl.shape with ⟨rfl, rfl⟩ | ⟨s, g, o, c, rfl, hc, hrd⟩
  · refine src_rule hx ?_
    by_cases hn : more.length = 0
    · rw [if_pos hn]
      have : more = [] := List.eq_nil_of_length_eq_zero hn
      subst this
      rw [hmW_ret]
      exact k _ _ ha ⟨Nat.le_refl _, fun _ _ _ => rfl, .inl rfl, RLe.refl _, ok⟩
    · rw [if_neg hn, if_pos (by simpa using hb)]
      simpa [hmW_new, hmW_ret] using k _ _ (hnew (by rw [List.length_append]; omega)) happ
  · rcases ha.own with h1 | ⟨s', g', o', cells, old, dirty, esz, h1, hob, hgl, hes⟩
    · simp at h1
    · simp only [V.slc.injEq] at h1
      obtain ⟨rfl, rfl, rfl, _, rfl, _⟩ := h1
      dsimp only
      rw [if_neg (fun hh => hh rfl)]
      refine src_rule hx ?_
      rw [hmW_get, hob, gets_some]
      obtain ⟨cells', old', dirty', esz', ho', hrc⟩ := rdAt_some hrd
      rw [hob] at ho'
      simp only [Option.some.injEq, Ob.sto.injEq] at ho'
      obtain ⟨rfl, rfl, rfl, rfl⟩ := ho'
      dsimp only
      by_cases hn : more.length = 0
      · have : more = [] := List.eq_nil_of_length_eq_zero hn
        subst this
        rw [if_pos (by simp), if_pos (by simp)]
        rw [List.append_nil] at k
        rw [hmW_ret]
        exact k _ _ ha ⟨Nat.le_refl _, fun _ _ _ => rfl, .inr (.inl ⟨by simp, rfl⟩), RLe.refl _, ok⟩
      · rw [if_neg (by omega), if_pos (by simpa using hb), hrc]
        dsimp only
        by_cases hcase : esz = none ∨ (g = old.length ∧ esz = some sz ∧ o + rows.length * sz < cells.length)
        · rw [if_pos hcase]
          simpa [hmW_new, hmW_ret] using k _ _ (hnew (by rw [List.length_append]; omega)) happ
        · rw [if_neg hcase]
          subst hgl
          rcases hes with rfl | ⟨hrp, rfl⟩
          · exact absurd (.inl rfl) hcase
          · have hend : ¬ o + rows.length * sz < cells.length := fun hh => hcase (.inr ⟨rfl, rfl, hh⟩)
            obtain ⟨d1, d2, d3, d4⟩ := rdCells_some hrc
            have he : o + rows.length * sz = cells.length := by omega
            rw [if_pos ⟨hrp, rfl, rfl, flat_leaf hx.leaf⟩, if_pos rfl, he, List.take_length]
            simp only [hmW_set, hmW_ret]
            have hrle : RLe h.obj (h.set s (.sto (cells ++ more.flatten) (cells.length :: old) dirty (some sz))).obj := by
              intro s2 g2 o2 n2 vs2 hr2
              obtain ⟨c2, l2, y2, z2, hs2, hr2⟩ := rdAt_some hr2
              unfold rdAt
              simp only [Hp.set_obj]
              by_cases hss : s2 = s
              · subst hss
                rw [hob] at hs2
                simp only [Option.some.injEq, Ob.sto.injEq] at hs2
                obtain ⟨rfl, rfl, rfl, rfl⟩ := hs2
                simp only [if_true]
                exact rdCells_grow hr2
              · rw [if_neg hss, hs2]; exact hr2
            refine k _ _ ⟨⟨.inr ⟨s, old.length + 1, o, _, by rw [List.length_append], Nat.le_refl _, ?_⟩, hall, hleaf, hlim⟩, .inr ⟨s, old.length + 1, o, cells ++ more.flatten, cells.length :: old, dirty, some sz, by rw [List.length_append], by simp, by simp, .inr ⟨by rw [List.length_append]; omega, rfl⟩⟩⟩ ⟨Nat.le_refl _, ?_, .inr (.inl ⟨by simp, rfl⟩), hrle, ok.set (ok _ _ hob) _⟩
            · have hl := flat_len hall
              rw [List.flatten_append, List.length_append] at hl
              have hfl : rows.flatten.length = rows.length * sz := flat_len ha.sl.len
              simp only [rdAt, Hp.set_obj, if_true, rdCells, genSize, List.length_cons, List.length_append]
              have hlen2 : (rows.length + more.length) * sz = rows.length * sz + more.length * sz := Nat.add_mul _ _ _
              rw [if_pos ⟨by omega, by omega, by omega⟩]
              rw [List.drop_append, show o - cells.length = 0 by omega, List.drop_zero, List.flatten_append, d4]
              have : (cells.drop o).length = rows.length * sz := by rw [List.length_drop]; omega
              rw [← this, List.take_length]
              rw [List.take_of_length_le (by rw [List.length_append]; omega)]
            · intro i hi hne
              rw [Hp.set_obj, if_neg]
              rintro rfl
              rcases hne with h1 | h1
              · simp at h1
              · exact h1 rfl

theorem App.refl {h : Hp} (ok : h.ok) (a : V) : App h a h a := ⟨Nat.le_refl _, fun _ _ _ => rfl, by
  by_cases ha : a = .nslc
  · exact .inl ha
  · exact .inr (.inl ⟨ha, rfl⟩), RLe.refl _, ok⟩

/-- a slice of the call's own -/
def own (h0 : Hp) (a : V) : Prop := a = .nslc ∨ h0.nx ≤ a.sS
theorem App.le {h0 h k : Hp} {a b : V} (p : App h a k b) (l : h0.le h) (o : own h0 a) : h0.le k := ⟨Nat.le_trans l.nx p.nx, fun i hi => by
  rw [p.same i (Nat.lt_of_lt_of_le hi l.nx)]
  · exact l.obj i hi
  · rcases o with o | o
    · exact .inl o
    · exact .inr (by omega)⟩
theorem App.own {h0 h k : Hp} {a b : V} (p : App h a k b) (l : h0.le h) (o : own h0 a) : own h0 b := by
  rcases p.place with q | ⟨q, r⟩ | q
  · exact .inl q
  · rcases o with o | o
    · exact absurd o q
    · exact .inr (by omega)
  · exact .inr (Nat.le_trans l.nx q)
theorem own.le {h0 h : Hp} {a : V} (o : Ab.own h a) (l : h0.le h) : Ab.own h0 a := by
  rcases o with o | o
  · exact .inl o
  · exact .inr (Nat.le_trans l.nx o)

/-- a reading that stays as the heap grows -/
def MonoL {X : Type} (L : Lay X) : Prop := ∀ H K x r, RLe H K → L H x r → L K x r
theorem monoI : MonoL layI := fun _ _ _ _ _ h => h
theorem monoB : MonoL layB := fun _ _ _ _ _ h => h

structure GrowR {X : Type} (L : Lay X) (sz : Nat) (h : Hp) (a : V) (xs : List X) : Prop where
  rd : ∃ rows : List (List V), Grow h sz a rows ∧ rows.length = xs.length ∧ ∀ (i : Nat) (x : X) (r : List V), xs[i]? = some x → rows[i]? = some r → L h.obj x r
theorem GrowR.slr {X : Type} {L : Lay X} {sz : Nat} {h : Hp} {a : V} {xs : List X} (g : GrowR L sz h a xs) : SlR L sz h.obj a xs := by
  obtain ⟨rows, h1, h2, h3⟩ := g.rd
  exact ⟨rows, h1.sl, h2, h3⟩
theorem GrowR.nil {X : Type} (L : Lay X) (sz : Nat) (h : Hp) : GrowR L sz h .nslc [] := ⟨[], ⟨Sl.nil _ _, .inl rfl⟩, rfl, by simp⟩
theorem GrowR.empty {X : Type} (L : Lay X) (sz : Nat) (h : Hp) : GrowR L sz (h.new (.sto [] [] 0 none)) (.slc h.nx 0 0 0 0 sz) [] :=
  ⟨[], ⟨⟨.inr ⟨_, _, _, _, rfl, Nat.le_refl _, by simp [rdAt, rdC_plain]⟩, by simp, by simp, by simp⟩, .inr ⟨h.nx, 0, 0, [], [], 0, none, rfl, by simp, rfl, .inl rfl⟩⟩, rfl, by simp⟩
/-- what leaves the storage alone leaves the slice alone -/
theorem GrowR.keep {X : Type} {L : Lay X} (mL : MonoL L) {sz : Nat} {h k : Hp} {a : V} {xs : List X} (g : GrowR L sz h a xs) (hr : RLe h.obj k.obj) (hs : a = .nslc ∨ k.obj a.sS = h.obj a.sS) : GrowR L sz k a xs := by
  obtain ⟨rows, h1, h2, h3⟩ := g.rd
  refine ⟨rows, ⟨h1.sl.mono hr, ?_⟩, h2, fun i x r hx hrr => mL _ _ _ _ hr (h3 i x r hx hrr)⟩
  rcases h1.own with h | ⟨s, g', o, cells, old, dirty, esz, rfl, hob, hes⟩
  · exact .inl h
  · refine .inr ⟨s, g', o, cells, old, dirty, esz, rfl, ?_, hes⟩
    rcases hs with hs | hs
    · simp at hs
    · rw [← hob]; exact hs
theorem GrowR.lt {X : Type} {L : Lay X} {sz : Nat} {h : Hp} {a : V} {xs : List X} (g : GrowR L sz h a xs) (ok : h.ok) : a = .nslc ∨ a.sS < h.nx := by
  obtain ⟨rows, h1, h2, h3⟩ := g.rd
  rcases h1.own with h | ⟨s, g, o, cells, old, dirty, esz, rfl, hob, hes⟩
  · exact .inl h
  · exact .inr (ok _ _ hob)
theorem GrowR.le {X : Type} {L : Lay X} (mL : MonoL L) {sz : Nat} {h k : Hp} {a : V} {xs : List X} (g : GrowR L sz h a xs) (ok : h.ok) (l : h.le k) : GrowR L sz k a xs :=
  g.keep mL (l.rle ok) ((g.lt ok).imp id fun hh => l.obj _ hh)

theorem Sl.one {sz : Nat} (h : Hp) {cs : List V} (hl : cs.length = sz) (hf : cs.all V.leaf = true) :
    Sl (h.new (.sto cs [] 0 none)).obj sz (.slc h.nx 0 0 1 1 sz) [cs] :=
  ⟨.inr ⟨_, _, _, _, rfl, Nat.le_refl _, by simp [rdAt, rdC_plain, hl]; rw [List.take_of_length_le (by omega)]⟩, by simpa using hl, by simpa using hf, by simp⟩

/-- one element is appended: the literal slice that holds it has just been made -/
theorem app1_rule {X : Type} {L : Lay X} (mL : MonoL L) {h : Hp} {sz bytes : Nat} {a : V} {xs : List X} {x : X} {cs : List V} {K : V → Hp → Prop} (ok : h.ok) (ha : GrowR L sz h a xs) (hx : L h.obj x cs) (hl : cs.length = sz) (hf : cs.all V.leaf = true)
    (hsz : 0 < sz) (hby : 0 < bytes) (hb : (xs.length + 1) * bytes ≤ 1099511627776) (k : ∀ b h', GrowR L sz h' b (xs ++ [x]) → App h a h' b → run (K b h')) :
    run (hmW (appHM sz bytes a (.slc h.nx 0 0 1 1 sz)) (h.new (.sto cs [] 0 none)) K) := by
  obtain ⟨rows, g1, g2, g3⟩ := ha.rd
  have hle := Hp.le_new h (.sto cs [] 0 none)
  have ga : Grow (h.new (.sto cs [] 0 none)) sz a rows := by
    refine ⟨g1.sl.mono (hle.rle ok), ?_⟩
    rcases g1.own with h | ⟨s, g, o, cells, old, dirty, esz, rfl, hob, hes⟩
    · exact .inl h
    · exact .inr ⟨s, g, o, cells, old, dirty, esz, rfl, by rw [hle.obj _ (ok _ _ hob)]; exact hob, hes⟩
  refine app_rule (ok.new _) ga (Sl.one h hl hf) hsz hby (by simpa [g2] using hb) ?_
  intro b h' hg happ
  refine k b h' ⟨_, hg, by simp [g2], ?_⟩ ⟨Nat.le_trans hle.nx happ.nx, ?_, ?_, (hle.rle ok).trans happ.rle, happ.ok⟩
  · intro i y r hy hr
    refine mL _ _ _ _ ((hle.rle ok).trans happ.rle) ?_
    by_cases hi : i < xs.length
    · rw [List.getElem?_append_left hi] at hy
      rw [List.getElem?_append_left (by omega)] at hr
      exact g3 i y r hy hr
    · rw [List.getElem?_append_right (by omega)] at hy hr
      rw [g2] at hr
      cases hh : i - xs.length with
      | zero => rw [hh] at hy hr; simp at hy hr; subst hy; subst hr; exact hx
      | succ m => rw [hh] at hy; simp at hy
  · intro i hi hne
    rw [happ.same i (by simp; omega) hne]
    exact hle.obj i hi
  · rcases happ.place with q | q | q
    · exact .inl q
    · exact .inr (.inl q)
    · exact .inr (.inr (Nat.le_trans hle.nx q))

/-- pairs of numbers -/
def layS : Lay (Int × Int) := fun _ x r => r = [.int .i64 x.1, .int .i64 x.2]
theorem monoS : MonoL layS := fun _ _ _ _ _ h => h

/-- what is left behind a sort of a slice -/
structure Sorted {X : Type} (L : Lay X) (sz : Nat) (le : X → X → Prop) (h : Hp) (a : V) (l : List X) (k : Hp) (l' : List X) : Prop where
  perm : l'.Perm l
  srt : l'.Pairwise le
  nx : k.nx = h.nx
  ok : k.ok
  same : ∀ i, (a = .nslc ∨ i ≠ a.sS) → k.obj i = h.obj i
  rd : SlR L sz k.obj a l'

end Go.Ab
