/- Memory: what a new object, a written row, a longer row do to the relation. -/
import Derived.Test.YtfacghikjnjjmaaSx2
namespace Go.SX
open Go
set_option linter.unusedSectionVars false
variable [Env]

theorem St.at_lt {σ : St} {i : Nat} (h : i < σ.length) : σ[i]? = some (σ.at i) := by
  unfold St.at
  rw [List.getD_eq_getElem?_getD, List.getElem?_eq_getElem h]; rfl
theorem St.at_ge {σ : St} {i : Nat} (h : σ.length ≤ i) : σ.at i = .dead := by
  unfold St.at
  rw [List.getD_eq_getElem?_getD, List.getElem?_eq_none h]; rfl
theorem St.at_new (σ : St) (o : AO) (i : Nat) : (σ.new o).at i = if i = σ.length then o else σ.at i := by
  unfold St.at St.new
  rw [List.getD_eq_getElem?_getD, List.getD_eq_getElem?_getD, List.getElem?_append]
  by_cases h : i < σ.length
  · rw [if_pos h, if_neg (by omega)]
  · rw [if_neg h]
    by_cases e : i = σ.length
    · subst e; simp
    · rw [if_neg e, List.getElem?_eq_none (l := σ) (by omega), List.getElem?_eq_none (by simp; omega)]
theorem St.at_set (σ : St) (o : AO) (i j : Nat) : St.at (σ.set j o) i = if i = j ∧ j < σ.length then o else σ.at i := by
  unfold St.at
  rw [List.getD_eq_getElem?_getD, List.getD_eq_getElem?_getD, List.getElem?_set]
  by_cases h : j = i
  · subst h
    by_cases hl : j < σ.length
    · simp [hl]
    · simp [hl]
  · simp [h, Ne.symm h]
theorem St.len_new (σ : St) (o : AO) : (σ.new o).length = σ.length + 1 := by simp [St.new]

theorem cell_block {w w' : World} {b o : Nat} (h : w'.heap[b]? = w.heap[b]?) : w'.cell? ⟨b, o, none⟩ = w.cell? ⟨b, o, none⟩ := by
  unfold World.cell?
  rw [h]

theorem CRel.mono {ρ ρ' : Nat → Loc} {n n' : Nat} {w w' : World} {b base : Nat} {c : Cells} (h : CRel ρ n w b base c) (hs : Same n ρ ρ') (hn : n ≤ n')
    (hb : w'.heap[b]? = w.heap[b]?) : CRel ρ' n' w' b base c := by
  intro i s hi
  obtain ⟨v, hv, hr⟩ := h i s hi
  exact ⟨v, by rw [cell_block hb]; exact hv, hr.mono hs hn⟩

theorem heap_lt {w : World} {b : Nat} {o : Obj} (h : w.heap[b]? = some o) : b < w.heap.size := (Array.getElem?_eq_some_iff.1 h).1

theorem GRel.mono {w w' : World} {blk : Nat} {M : Int → Int} {pg : Int → Bool} {es : Array MapEntry} (h : GRel w blk M pg es)
    (hb : ∀ (i : Nat) (e : MapEntry) b, es[i]? = some e → e.val = .pointer (some ⟨b, 0, none⟩) → w'.heap[b]? = w.heap[b]?) : GRel w' blk M pg es := by
  refine ⟨fun i e he => ?_, h.has, h.one, h.zero, h.byte⟩
  obtain ⟨a, b, h1, h2, h3, h4, h5, h6, cs, t, fr, h7, h8⟩ := h.ent i e he
  have e1 := hb i e b he h4
  exact ⟨a, b, h1, h2, h3, h4, h5, heap_lt (e1.trans h7), cs, t, fr, e1.trans h7, h8⟩

theorem ORel.mono {ρ ρ' : Nat → Loc} {n n' : Nat} {w w' : World} {l : Loc} {o : AO} (h : ORel ρ n w l o) (hs : Same n ρ ρ') (hn : n ≤ n')
    (hb : l.live = true → o ≠ .dead → ∀ b, foot w l o b → w'.heap[b]? = w.heap[b]?) : ORel ρ' n' w' l o := by
  cases o with
  | dead => exact True.intro
  | row own sz c =>
    refine ⟨h.1, fun hl => ?_⟩
    have e := hb hl (by intro h; cases h) _ (foot_block _ _ _)
    refine ⟨(h.2 hl).1.mono hs hn e, fun ho => ?_⟩
    obtain ⟨cells, elem, fr, h1, h2⟩ := (h.2 hl).2 ho
    exact ⟨cells, elem, fr, by rw [e]; exact h1, h2⟩
  | mapo es =>
    obtain ⟨hl, es', hp, hap, entries, clock, h1, h2, h3⟩ := h
    have e := hb hl (by intro h; cases h) _ (foot_block _ _ _)
    exact ⟨hl, es', hp, hap, entries, clock, by rw [e]; exact h1, h2, fun i k v en a b => ⟨(h3 i k v en a b).1.mono hs hn, (h3 i k v en a b).2.mono hs hn⟩⟩
  | maps kk vk f =>
    obtain ⟨hl, entries, clock, h1, h2⟩ := h
    have e := hb hl (by intro h; cases h) _ (foot_block _ _ _)
    exact ⟨hl, entries, clock, by rw [e]; exact h1, h2⟩
  | pmem M pg =>
    obtain ⟨hl, ⟨entries, clock, h1, h2⟩ | ⟨h0, T, e0, l0, p, v, q1, q2, q3, q4, q5, q6, q7⟩⟩ := h
    · have e := hb hl (by intro h; cases h) _ (foot_block _ _ _)
      exact ⟨hl, .inl ⟨entries, clock, by rw [e]; exact h1, h2.mono fun i en b he hv => hb hl (by intro h; cases h) b (.inr ⟨M, pg, rfl, .inl ⟨entries, clock, h1, i, en, he, hv⟩⟩)⟩⟩
    · have e := hb hl (by intro h; cases h) _ (foot_block _ _ _)
      refine ⟨hl, .inr ⟨h0, T, e0, l0, p, v, q1, q2, q3, q4, by rw [e]; exact q5, ⟨q6.1, ?_⟩, q7⟩⟩
      rcases q6.2 with h | ⟨g, cap, cur, rfl, r1, r2, r3⟩
      · exact .inl h
      · refine .inr ⟨g, cap, cur, rfl, r1, ?_, r3⟩
        rw [hb hl (by intro h; cases h) g (.inr ⟨M, pg, rfl, .inr ⟨p, _, T, _, q5, rfl⟩⟩)]
        exact r2

/-- one object is another one; the rest is as it was, or forgotten -/
theorem Rel.upd {ρ ρ' : Nat → Loc} {σ σ' : St} {w w' : World} (h : Rel ρ σ w) (hs : Same σ.length ρ ρ') (hlen : σ.length ≤ σ'.length) (k : Nat)
    (hoth : ∀ i, i ≠ k → σ'.at i = σ.at i ∨ σ'.at i = .dead)
    (hblk : ∀ i, i ≠ k → used ρ σ i → σ'.at i = σ.at i → ∀ b, foot w (ρ i) (σ.at i) b → w'.heap[b]? = w.heap[b]?)
    (hk : ORel ρ' σ'.length w' (ρ' k) (σ'.at k)) (hbnd : used ρ' σ' k → (ρ' k).block < w'.heap.size) (hsize : w.heap.size ≤ w'.heap.size)
    (hsep : used ρ' σ' k → ∀ j, j ≠ k → used ρ σ j → σ'.at j = σ.at j → ∀ b, foot w' (ρ' k) (σ'.at k) b → ¬ foot w (ρ j) (σ.at j) b) : Rel ρ' σ' w' := by
  have back : ∀ i, i ≠ k → used ρ' σ' i → used ρ σ i ∧ σ'.at i = σ.at i ∧ ρ' i = ρ i := by
    intro i hi hu
    rcases hoth i hi with e | e
    · have hlt : i < σ.length := by
        rcases Nat.lt_or_ge i σ.length with h' | h'
        · exact h'
        · exact absurd (e.trans (St.at_ge h')) hu.2
      exact ⟨⟨by rw [← hs i hlt]; exact hu.1, by rw [← e]; exact hu.2⟩, e, hs i hlt⟩
    · exact absurd e hu.2
  have backO : ∀ i, i ≠ k → owned ρ' σ' i → owned ρ σ i := by
    intro i hi ho
    obtain ⟨hu, e, er⟩ := back i hi ho.used
    exact ⟨hu.1, by rw [← e]; exact ho.2⟩
  have footB : ∀ i, i ≠ k → used ρ' σ' i → ∀ b, foot w' (ρ' i) (σ'.at i) b ↔ foot w (ρ i) (σ.at i) b := by
    intro i hi hu b
    obtain ⟨hu', e, er⟩ := back i hi hu
    rw [er, e]
    exact foot_keep (hblk i hi hu' e _ (foot_block _ _ _))
  refine ⟨fun i => ?_, fun i j hij ho hu b hb1 hb2 => ?_, fun i hu => ?_⟩
  · by_cases hi : i = k
    · subst hi; exact hk
    · rcases hoth i hi with e | e
      · by_cases hlt : i < σ.length
        · rw [e, hs i hlt]
          refine (h.obj i).mono hs hlen (fun hl hd => hblk i hi ⟨hl, hd⟩ e)
        · rw [e, St.at_ge (Nat.le_of_not_lt hlt)]; exact True.intro
      · rw [e]; exact True.intro
  · by_cases hi : i = k
    · subst hi
      have hj : j ≠ i := fun e => hij e.symm
      obtain ⟨hu', e, er⟩ := back j hj hu
      exact hsep ho.used j hj hu' e b hb1 ((footB j hj hu b).1 hb2)
    · by_cases hj : j = k
      · subst hj
        obtain ⟨hu', e, er⟩ := back i hi ho.used
        exact hsep hu i hi hu' e b hb2 ((footB i hi ho.used b).1 hb1)
      · obtain ⟨hu', e, er⟩ := back j hj hu
        exact h.sep i j hij (backO i hi ho) hu' b ((footB i hi ho.used b).1 hb1) ((footB j hj hu b).1 hb2)
  · by_cases hi : i = k
    · subst hi; exact hbnd hu
    · obtain ⟨hu', e, er⟩ := back i hi hu
      rw [er]
      have := h.bnd i hu'
      omega

def setLoc (ρ : Nat → Loc) (k : Nat) (l : Loc) : Nat → Loc := fun i => if i = k then l else ρ i
theorem setLoc_same (ρ : Nat → Loc) (n : Nat) (l : Loc) : Same n ρ (setLoc ρ n l) := by
  intro i hi
  unfold setLoc
  rw [if_neg (by omega)]
theorem setLoc_at (ρ : Nat → Loc) (n : Nat) (l : Loc) : setLoc ρ n l n = l := by simp [setLoc]

/-- a new object in a new block -/
theorem Rel.freshF {ρ : Nat → Loc} {σ : St} {w w' : World} {o : AO} {ob : Obj} (h : Rel ρ σ w) (l : Loc) (hl : l.live = true → l.block = w.heap.size)
    (hh : w'.heap = w.heap.push ob) (hos : w'.os = w.os) (ht : w'.tape = w.tape) (hout : w'.output = w.output) (hft : ∀ b, foot w' l o b → b = l.block)
    (ho : ORel (setLoc ρ σ.length l) (σ.length + 1) w' l o) : Rel (setLoc ρ σ.length l) (σ.new o) w' ∧ Ext ρ σ w (setLoc ρ σ.length l) (σ.new o) w' := by
  have hpush : ∀ b, b < w.heap.size → w'.heap[b]? = w.heap[b]? := by
    intro b hb; rw [hh, Array.getElem?_push, if_neg (by omega)]
  have hsz : w'.heap.size = w.heap.size + 1 := by rw [hh]; simp
  constructor
  · refine h.upd (setLoc_same _ _ _) (by rw [St.len_new]; omega) σ.length ?_ ?_ ?_ ?_ (by omega) ?_
    · intro i hi; left; rw [St.at_new, if_neg hi]
    · intro i hi hu _ b hb; exact hpush _ (h.fbnd hu hb)
    · rw [St.len_new, setLoc_at, St.at_new, if_pos rfl]; exact ho
    · intro hu; rw [setLoc_at] at *; have := hl (by have := hu.1; rwa [setLoc_at] at this); omega
    · intro hu j hj hu' _ b hb hb2
      have := hl (by have := hu.1; rwa [setLoc_at] at this)
      have := h.fbnd hu' hb2
      rw [setLoc_at, St.at_new, if_pos rfl] at hb
      have hb := hft b hb
      omega
  · refine ⟨by rw [St.len_new]; omega, setLoc_same _ _ _, hos, ht, hout, by omega, fun b hb _ => hpush b hb, fun i hi b hb => ?_⟩
    by_cases e : i = σ.length
    · subst e
      right
      rw [setLoc_at, St.at_new, if_pos rfl] at hb
      have hb := hft b hb
      have := hl (by have := hi.1; rwa [setLoc_at] at this)
      omega
    · left
      have e2 : setLoc ρ σ.length l i = ρ i := by unfold setLoc; rw [if_neg e]
      have e3 : (σ.new o).at i = σ.at i := by rw [St.at_new, if_neg e]
      have ho : owned ρ σ i := ⟨by rw [← e2]; exact hi.1, by rw [← e3]; exact hi.2⟩
      refine ⟨i, ho, ?_⟩
      rw [e2, e3] at hb
      exact (foot_keep (hpush _ (h.bnd i ho.used))).1 hb

theorem Rel.fresh {ρ : Nat → Loc} {σ : St} {w w' : World} {o : AO} {ob : Obj} (h : Rel ρ σ w) (l : Loc) (hl : l.live = true → l.block = w.heap.size)
    (hh : w'.heap = w.heap.push ob) (hos : w'.os = w.os) (ht : w'.tape = w.tape) (hout : w'.output = w.output) (hnp : ∀ M pg, o ≠ .pmem M pg)
    (ho : ORel (setLoc ρ σ.length l) (σ.length + 1) w' l o) : Rel (setLoc ρ σ.length l) (σ.new o) w' ∧ Ext ρ σ w (setLoc ρ σ.length l) (σ.new o) w' :=
  h.freshF l hl hh hos ht hout (fun _ hb => (foot_row hnp).1 hb) ho

theorem cell_new (w : World) (_ : Obj) (b o : Nat) (cs : Array Value) (e : TypeId) (fr : Nat × Nat) (h : w.heap[b]? = some (.cells cs e fr)) : w.cell? ⟨b, o, none⟩ = cs[o]? := by
  simp [World.cell?, h]

/-- what a new row holds -/
theorem CRel.row {ρ : Nat → Loc} {n : Nat} {w : World} {b base : Nat} {l : List Sc} {vs : List Value} {cs : Array Value} {e : TypeId} {fr : Nat × Nat} (h : w.heap[b]? = some (.cells cs e fr))
    (hv : ∀ i v, vs[i]? = some v → cs[base + i]? = some v) (hr : LRel ρ n l vs) : CRel ρ n w b base (.vals l) := by
  intro i s hi
  have hlt : i < vs.length := by rw [← hr.1]; exact (List.getElem?_eq_some_iff.1 hi).1
  refine ⟨vs[i], ?_, hr.2 i s _ hi (List.getElem?_eq_getElem hlt)⟩
  simp only [World.cell?, h]
  exact hv i _ (List.getElem?_eq_getElem hlt)

/-- a new row of one's own, of values that are known -/
theorem fresh_row {ρ : Nat → Loc} {σ : St} {w w' : World} {l : List Sc} {cs : Array Value} {e : TypeId} {fr : Nat × Nat} (sz cap : Nat) (h : Rel ρ σ w) (hr : LRel ρ σ.length l (cs.toList.take l.length))
    (hh : w'.heap = w.heap.push (.cells cs e fr)) (hos : w'.os = w.os) (ht : w'.tape = w.tape) (hout : w'.output = w.output) (hfr : ∀ i, i < cs.size → fr.1 ≤ fr.2 ∧ ¬ (fr.1 ≤ i ∧ i < fr.2))
    (hc : l.length ≤ cap * sz) (hcs : cap * sz ≤ cs.size) :
    Rel (setLoc ρ σ.length ⟨true, w.heap.size, 0, cap⟩) (σ.new (.row true sz (.vals l))) w' ∧ Ext ρ σ w (setLoc ρ σ.length ⟨true, w.heap.size, 0, cap⟩) (σ.new (.row true sz (.vals l))) w' := by
  have hb : w'.heap[w.heap.size]? = some (.cells cs e fr) := by rw [hh]; simp
  refine h.fresh ⟨true, w.heap.size, 0, cap⟩ (fun _ => rfl) hh hos ht hout (fun _ _ e => by cases e) ⟨fun h => (by cases h), fun _ => ⟨?_, fun _ => ⟨cs, e, fr, hb, hfr, hc, by show 0 + cap * sz ≤ cs.size; omega⟩⟩⟩
  refine CRel.row hb ?_ (hr.mono (setLoc_same _ _ _) (Nat.le_succ _))
  intro i v hi
  rw [Nat.zero_add]
  rw [List.getElem?_take] at hi
  split at hi
  · simpa using hi
  · cases hi

/-! A row is written. -/
theorem heap_setCells (b : Nat) : ∀ (vs : List Value) (o : Nat) (w : World) (k : Nat), k ≠ b → (w.setCells b o vs).heap[k]? = w.heap[k]?
  | [], _, _, _, _ => rfl
  | v :: r, o, w, k, hk => by
    rw [World.setCells, heap_setCells b r (o + 1) _ k hk]
    simp only [World.setCell, Array.getElem?_modify]
    rw [if_neg (by exact fun e => hk e.symm)]
theorem setCells_rest (b : Nat) : ∀ (vs : List Value) (o : Nat) (w : World), (w.setCells b o vs).os = w.os ∧ (w.setCells b o vs).tape = w.tape ∧ (w.setCells b o vs).output = w.output ∧ (w.setCells b o vs).heap.size = w.heap.size
  | [], _, _ => ⟨rfl, rfl, rfl, rfl⟩
  | v :: r, o, w => by
    obtain ⟨h1, h2, h3, h4⟩ := setCells_rest b r (o + 1) (w.setCell ⟨b, o, none⟩ v)
    exact ⟨h1, h2, h3, by rw [World.setCells, h4]; simp [World.setCell]⟩
theorem row_setCells (b : Nat) : ∀ (vs : List Value) (o : Nat) (w : World) (cs : Array Value) (e : TypeId) (fr : Nat × Nat), w.heap[b]? = some (.cells cs e fr) →
    ∃ cs', (w.setCells b o vs).heap[b]? = some (.cells cs' e fr) ∧ cs'.size = cs.size ∧ (∀ i, i < o ∨ o + vs.length ≤ i → cs'[i]? = cs[i]?) ∧ (∀ i v, vs[i]? = some v → o + i < cs.size → cs'[o + i]? = some v)
  | [], o, w, cs, e, fr, h => ⟨cs, h, rfl, fun _ _ => rfl, fun i v hv => by simp at hv⟩
  | v :: r, o, w, cs, e, fr, h => by
    have h1 : (w.setCell ⟨b, o, none⟩ v).heap[b]? = some (.cells (cs.setIfInBounds o v) e fr) := by
      simp only [World.setCell, Array.getElem?_modify, if_true, h]
      rfl
    obtain ⟨cs', g1, g2, g3, g4⟩ := row_setCells b r (o + 1) _ _ e fr h1
    refine ⟨cs', g1, by rw [g2]; simp, fun i hi => ?_, fun i u hu hlt => ?_⟩
    · rw [g3 i (by simp at hi; omega), Array.getElem?_setIfInBounds, if_neg (by simp at hi; omega)]
    · cases i with
      | zero =>
        simp at hu
        subst hu
        rw [Nat.add_zero] at hlt ⊢
        rw [g3 o (by omega), Array.getElem?_setIfInBounds, if_pos rfl, if_pos hlt]
      | succ i =>
        have := g4 i u (by simpa using hu) (by simp; omega)
        rw [show o + (i + 1) = o + 1 + i by omega]
        exact this

/-- own rows: their cells are there and not frozen -/
theorem Mine.cells {w : World} {l : Loc} {sz len i : Nat} (h : Mine w l sz len) (hi : i < l.cap * sz) : (w.cell? ⟨l.block, l.base + i, none⟩).isSome = true ∧ w.frozen? ⟨l.block, l.base + i, none⟩ = false := by
  obtain ⟨cs, e, fr, h1, h2, h3, h4⟩ := h
  constructor
  · simp only [World.cell?, h1]
    rw [Array.getElem?_eq_getElem (by omega)]; rfl
  · simp only [World.frozen?, h1]
    have := h2 (l.base + i) (by omega)
    simp only [Bool.and_eq_false_iff, decide_eq_false_iff_not]
    omega

/-- a row of one's own is written from a place on -/
theorem Rel.write {ρ : Nat → Loc} {σ : St} {w : World} {id sz : Nat} {c c' : Cells} {vs : List Value} (o : Nat) (h : Rel ρ σ w) (hat : σ.at id = .row true sz c) (hl : (ρ id).live = true)
    (ho : o + vs.length ≤ (ρ id).cap * sz) (hlen : c'.len ≤ (ρ id).cap * sz)
    (hc : ∀ i s, c'.at i = some s → (∃ j v, i = o + j ∧ vs[j]? = some v ∧ SRel ρ σ.length s v) ∨ ((i < o ∨ o + vs.length ≤ i) ∧ ∃ s', c.at i = some s' ∧ ∀ v, SRel ρ σ.length s' v → SRel ρ σ.length s v)) :
    Rel ρ (σ.set id (.row true sz c')) (w.setCells (ρ id).block ((ρ id).base + o) vs) ∧ Ext ρ σ w ρ (σ.set id (.row true sz c')) (w.setCells (ρ id).block ((ρ id).base + o) vs) := by
  have hid : id < σ.length := by
    rcases Nat.lt_or_ge id σ.length with h' | h'
    · exact h'
    · rw [St.at_ge h'] at hat; cases hat
  have hown : owned ρ σ id := ⟨hl, by rw [hat]; rfl⟩
  have hobj := h.obj id
  rw [hat] at hobj
  obtain ⟨hcr, hm⟩ := hobj.2 hl
  obtain ⟨cs, e, fr, h1, h2, h3, h4⟩ := hm rfl
  obtain ⟨cs', g1, g2, g3, g4⟩ := row_setCells (ρ id).block vs ((ρ id).base + o) w cs e fr h1
  obtain ⟨r1, r2, r3, r4⟩ := setCells_rest (ρ id).block vs ((ρ id).base + o) w
  have hob : ORel ρ (σ.set id (.row true sz c')).length (w.setCells (ρ id).block ((ρ id).base + o) vs) (ρ id) (.row true sz c') := by
    rw [List.length_set]
    refine ⟨fun hf => (by rw [hl] at hf; cases hf), fun _ => ⟨fun i s hi => ?_, fun _ => ⟨cs', e, fr, g1, by rw [g2]; exact h2, hlen, by rw [g2]; exact h4⟩⟩⟩
    have hlt := Cells.at_lt hi
    rcases hc i s hi with ⟨j, v, rfl, hv, hr⟩ | ⟨hno, s', hold, himp⟩
    · refine ⟨v, ?_, hr⟩
      simp only [World.cell?, g1]
      have := g4 j v hv (by omega)
      rw [show (ρ id).base + (o + j) = (ρ id).base + o + j by omega]
      exact this
    · obtain ⟨v, hv, hr⟩ := hcr i s' hold
      refine ⟨v, ?_, himp v hr⟩
      simp only [World.cell?, g1]
      rw [g3 _ (by omega)]
      simpa [World.cell?, h1] using hv
  have hne : ∀ i, i ≠ id → used ρ σ i → ∀ b, foot w (ρ i) (σ.at i) b → (w.setCells (ρ id).block ((ρ id).base + o) vs).heap[b]? = w.heap[b]? := by
    intro i hi hu b hb
    exact heap_setCells _ _ _ _ _ (fun e => h.sep id i (Ne.symm hi) hown hu (ρ id).block (foot_block _ _ _) (e ▸ hb))
  have hfid : ∀ w b, foot w (ρ id) (.row true sz c') b ↔ b = (ρ id).block := fun w b => foot_row (fun _ _ e => by cases e)
  constructor
  · refine h.upd (fun _ _ => rfl) (by simp) id ?_ ?_ ?_ ?_ (by omega) ?_
    · intro i hi; left; rw [St.at_set, if_neg (by omega)]
    · intro i hi hu _; exact hne i hi hu
    · rw [St.at_set, if_pos ⟨rfl, hid⟩]; exact hob
    · intro _; have := h.bnd id hown.used; omega
    · intro _ j hj hu _ b hb
      rw [St.at_set, if_pos ⟨rfl, hid⟩, hfid] at hb
      subst hb
      exact h.sep id j (Ne.symm hj) hown hu _ (foot_block _ _ _)
  · refine ⟨by simp, fun _ _ => rfl, r1, r2, r3, by omega, fun b hb hno => heap_setCells _ _ _ _ _ (fun e => hno id hown (e ▸ foot_block _ _ _)), fun i hi b hb => ?_⟩
    left
    by_cases e : i = id
    · subst e
      rw [St.at_set, if_pos ⟨rfl, hid⟩, hfid] at hb
      subst hb
      exact ⟨i, hown, foot_block _ _ _⟩
    · rw [St.at_set, if_neg (by omega)] at hb
      have ho' : owned ρ σ i := ⟨hi.1, by have := hi.2; rwa [St.at_set, if_neg (by omega)] at this⟩
      exact ⟨i, ho', (foot_keep (hne i e ho'.used _ (foot_block _ _ _))).1 hb⟩

/-- that a row of one's own is marked behind its end changes nothing -/
theorem Rel.frz {ρ : Nat → Loc} {σ : St} {w : World} {id sz : Nat} {c : Cells} (h : Rel ρ σ w) (hat : σ.at id = .row true sz c) (hl : (ρ id).live = true) :
    ∃ cs e fr, w.heap[(ρ id).block]? = some (.cells cs e fr) ∧ Rel ρ σ (w.freeze ⟨(ρ id).block, cs.size, none⟩ 1) ∧ Ext ρ σ w ρ σ (w.freeze ⟨(ρ id).block, cs.size, none⟩ 1) := by
  have hown : owned ρ σ id := ⟨hl, by rw [hat]; rfl⟩
  have hobj := h.obj id
  rw [hat] at hobj
  obtain ⟨hcr, hm⟩ := hobj.2 hl
  obtain ⟨cs, e, fr, h1, h2, h3, h4⟩ := hm rfl
  refine ⟨cs, e, fr, h1, ?_⟩
  have hoth : ∀ k, k ≠ (ρ id).block → (w.freeze ⟨(ρ id).block, cs.size, none⟩ 1).heap[k]? = w.heap[k]? := by
    intro k hk
    simp only [World.freeze, Array.getElem?_modify]
    rw [if_neg (by omega)]
    simp only [Array.getElem?_modify]
    rw [if_neg (by exact fun e => hk e.symm)]
  have hself : ∃ fr', (w.freeze ⟨(ρ id).block, cs.size, none⟩ 1).heap[(ρ id).block]? = some (.cells cs e fr') ∧ ∀ i, i < cs.size → fr'.1 ≤ fr'.2 ∧ ¬ (fr'.1 ≤ i ∧ i < fr'.2) := by
    obtain ⟨lo, hi⟩ := fr
    refine ⟨if lo == hi then (cs.size, cs.size + 1) else (min lo cs.size, max hi (cs.size + 1)), ?_, fun i hi' => ?_⟩
    · simp only [World.freeze]
      rw [if_neg (by omega)]
      simp only [Array.getElem?_modify, if_true, h1, Option.map_some]
    · have k1 := h2 i hi'
      simp only at k1
      split
      · simp only; omega
      · rename_i hne
        have hne : lo ≠ hi := by simpa using hne
        have k2 := h2 (min lo i) (by omega)
        simp only at k2 ⊢
        have k3 : cs.size ≤ lo := by
          rcases Nat.lt_or_ge lo cs.size with h' | h'
          · have := h2 lo h'; simp only at this; omega
          · exact h'
        omega
  obtain ⟨fr', g1, g2⟩ := hself
  have r : (w.freeze ⟨(ρ id).block, cs.size, none⟩ 1).os = w.os ∧ (w.freeze ⟨(ρ id).block, cs.size, none⟩ 1).tape = w.tape ∧ (w.freeze ⟨(ρ id).block, cs.size, none⟩ 1).output = w.output ∧ (w.freeze ⟨(ρ id).block, cs.size, none⟩ 1).heap.size = w.heap.size := by
    simp [World.freeze]
  obtain ⟨r1, r2, r3, r4⟩ := r
  have hob : ORel ρ σ.length (w.freeze ⟨(ρ id).block, cs.size, none⟩ 1) (ρ id) (σ.at id) := by
    rw [hat]
    refine ⟨fun hf => (by rw [hl] at hf; cases hf), fun _ => ⟨fun i s hi => ?_, fun _ => ⟨cs, e, fr', g1, g2, h3, h4⟩⟩⟩
    obtain ⟨v, hv, hr⟩ := hcr i s hi
    refine ⟨v, ?_, hr⟩
    simp only [World.cell?, g1]
    simpa [World.cell?, h1] using hv
  have hne : ∀ i, i ≠ id → used ρ σ i → ∀ b, foot w (ρ i) (σ.at i) b → (w.freeze ⟨(ρ id).block, cs.size, none⟩ 1).heap[b]? = w.heap[b]? := by
    intro i hi hu b hb
    exact hoth _ (fun e => h.sep id i (Ne.symm hi) hown hu (ρ id).block (foot_block _ _ _) (e ▸ hb))
  have hfid : ∀ w b, foot w (ρ id) (σ.at id) b ↔ b = (ρ id).block := fun w b => by rw [hat]; exact foot_row (fun _ _ e => by cases e)
  constructor
  · refine h.upd (fun _ _ => rfl) (Nat.le_refl _) id (fun i hi => .inl rfl) (fun i hi hu _ => hne i hi hu) hob ?_ (by omega) ?_
    · intro _; have := h.bnd id hown.used; omega
    · intro _ j hj hu _ b hb
      rw [hfid] at hb
      subst hb
      exact h.sep id j (Ne.symm hj) hown hu _ (foot_block _ _ _)
  · refine ⟨Nat.le_refl _, fun _ _ => rfl, r1, r2, r3, by omega, fun b hb hno => hoth _ (fun e => hno id hown (e ▸ foot_block _ _ _)), fun i hi b hb => ?_⟩
    left
    by_cases e : i = id
    · subst e
      rw [hfid] at hb
      subst hb
      exact ⟨i, hown, foot_block _ _ _⟩
    · exact ⟨i, hi, (foot_keep (hne i e hi.used _ (foot_block _ _ _))).1 hb⟩

end Go.SX
