/- Operations that make values and memory. -/
import Derived.Test.YtfacghikjnjjmaaSx4
namespace Go.SX
open Go
set_option linter.unusedSectionVars false
variable [Env]

section
variable {P : Program} {a : Act} {ρ : Nat → Loc} {σ : St} {w : World} {f : Fr} {o : Oper}

theorem tzero_run {t : TypeId} {z : AV} (h : tzero P t = some z) : ∃ v, (zeroValue t).run P w = .ok v w ∧ z = AV.ofConst v ∧ (P.info? t).bind (·.zero) = some v := by
  unfold tzero at h
  obtain ⟨v, hv, rfl⟩ := Option.map_eq_some_iff.1 h
  obtain ⟨i, hi, hz⟩ := Option.bind_eq_some_iff.1 hv
  exact ⟨v, by simp [zeroValue, run_typeInfo w hi, hz], rfl, hv⟩

/-- a box -/
theorem box_sound {e : TypeId} {v : AV} {x : Value} {l : List Sc} (hr : Rel ρ σ w) (hv : ARel ρ σ.length v x) (hl : v.cells? = some l) :
    ∃ ρ' w', (Instr.box e x).run P w = .ok (.pointer (some ⟨w.heap.size, 0, none⟩)) w' ∧ SRel ρ' (σ.length + 1) (.ptr σ.length (.c 0) 1 0 0) (.pointer (some ⟨w.heap.size, 0, none⟩)) ∧
      Rel ρ' (σ.new (.row true 1 (.vals l))) w' ∧ Ext ρ σ w ρ' (σ.new (.row true 1 (.vals l))) w' := by
  have hc := cells?_rel hv hl
  have hlen : l.length = x.cells.size := by rw [hc.1]; simp
  obtain ⟨h1, h2⟩ := fresh_row (l := l) (cs := x.cells) (e := e) (fr := (0, 0)) (w' := { w with heap := w.heap.push (.cells x.cells e) }) 1 x.cells.size hr
    (by rw [show l.length = x.cells.toList.length by simp [hlen]]; rw [List.take_of_length_le (Nat.le_refl _)]; exact hc) rfl rfl rfl rfl (fun i _ => by omega) (by simp [hlen]) (by omega)
  refine ⟨_, _, ?_, ⟨by omega, by rw [setLoc_at], 0, rfl, .inl rfl, ?_⟩, h1, h2⟩
  · simp [Instr.box, newVar, newRow]
  · rw [setLoc_at]; simp [offs]

theorem alloc_sound {e : TypeId} {l : List Sc} (hr : Rel ρ σ w) (h : (tzero P e).bind (·.cells?) = some l) :
    ∃ ρ' w', (Instr.alloc e true (.tuple #[])).run P w = .ok (.pointer (some ⟨w.heap.size, 0, none⟩)) w' ∧ SRel ρ' (σ.length + 1) (.ptr σ.length (.c 0) 1 0 0) (.pointer (some ⟨w.heap.size, 0, none⟩)) ∧
      Rel ρ' (σ.new (.row true 1 (.vals l))) w' ∧ Ext ρ σ w ρ' (σ.new (.row true 1 (.vals l))) w' := by
  obtain ⟨z, hz, hl⟩ := Option.bind_eq_some_iff.1 h
  obtain ⟨v, hv, rfl, _⟩ := tzero_run (w := w) hz
  obtain ⟨ρ', w', h1, h2, h3, h4⟩ := box_sound (P := P) (e := e) hr (AV.ofConst_rel ρ σ.length v) hl
  refine ⟨ρ', w', ?_, h2, h3, h4⟩
  simp only [Instr.alloc, Sem.run_bind, hv, Result.andThen_ok]
  simpa [Instr.box] using h1

theorem allocB_sound {e : TypeId} {l : List Sc} (hr : Rel ρ σ w) (h : (tzero P e).bind (·.cells?) = some l) (hb : bldB e l = true) :
    ∃ ρ' w', (Instr.alloc e true (.tuple #[])).run P w = .ok (.pointer (some ⟨w.heap.size, 0, none⟩)) w' ∧ SRel ρ' (σ.length + 1) (.ptr σ.length (.c 0) 1 0 0) (.pointer (some ⟨w.heap.size, 0, none⟩)) ∧
      Rel ρ' (σ.new (.pmem (bldM []) fun _ => false)) w' ∧ Ext ρ σ w ρ' (σ.new (.pmem (bldM []) fun _ => false)) w' := by
  unfold bldB at hb
  split at hb
  · rename_i T te hB
    have hb := of_decide_eq_true hb
    subst hb
    obtain ⟨z, hz, hl⟩ := Option.bind_eq_some_iff.1 h
    obtain ⟨v, hv, rfl, _⟩ := tzero_run (w := w) hz
    have hc := cells?_rel (AV.ofConst_rel ρ σ.length v) hl
    have hcs : v.cells = #[.pointer none, .slice none 0 0] := by
      have h1 : v.cells.toList.length = 2 := hc.1.symm
      match hcl : v.cells.toList, h1 with
      | [a, b], _ =>
        rw [hcl] at hc
        have ha : a = .pointer none := hc.2 0 _ _ rfl rfl
        have hb : b = .slice none 0 0 := hc.2 1 _ _ rfl rfl
        apply Array.toList_inj.1
        rw [hcl, ha, hb]
    have hw : (w.heap.push (.cells v.cells e))[w.heap.size]? = some (.cells #[.pointer none, .slice none 0 0] e (0, 0)) := by rw [hcs]; simp
    obtain ⟨h1, h2⟩ := hr.freshF (w' := { w with heap := w.heap.push (.cells v.cells e) }) (o := .pmem (bldM []) fun _ => false) ⟨true, w.heap.size, 0, 0⟩ (fun _ => rfl) rfl rfl rfl rfl (fun b hf => by
        rcases hf with hf | ⟨M, pg, _, ⟨es, c, h1, _⟩ | ⟨p, v', T, fr, h1, h2⟩⟩
        · exact hf
        · rw [show ({ w with heap := w.heap.push (.cells v.cells e) } : World).heap[w.heap.size]? = _ from hw] at h1; cases h1
        · rw [show ({ w with heap := w.heap.push (.cells v.cells e) } : World).heap[w.heap.size]? = _ from hw] at h1; cases h1; cases h2)
      ⟨rfl, .inr ⟨rfl, e, te, [], _, _, hB, rfl, fun x hx => by simp at hx, .inl rfl, hw, ⟨by simp, .inl ⟨rfl, rfl⟩⟩, by intro e; cases e⟩⟩
    refine ⟨_, _, ?_, ⟨by omega, by rw [setLoc_at], 0, rfl, .inl rfl, ?_⟩, h1, h2⟩
    · simp only [Instr.alloc, Sem.run_bind, hv, Result.andThen_ok]
      simp [newVar, newRow]
    · rw [setLoc_at]; simp [offs]
  · cases hb

/-! Parts put together. -/
theorem setA_rel {ρ : Nat → Loc} {n : Nat} : ∀ (l : List Sc) (vs : List Value) (off k : Nat) (c : List Sc) (acc : Array Value), LRel ρ n l vs → LRel ρ n c acc.toList → off + k + l.length ≤ c.length →
    LRel ρ n (setL c (off + k) l) ((vs.zipIdx k).foldl (fun a (p : Value × Nat) => a.setIfInBounds (off + p.2) p.1) acc).toList
  | [], vs, off, k, c, acc, h, hc, _ => by
    have : vs = [] := by cases vs with | nil => rfl | cons x y => exact absurd h.1 (by simp)
    subst this
    exact hc
  | s :: l, vs, off, k, c, acc, h, hc, hle => by
    obtain ⟨v, vs, rfl⟩ : ∃ v r, vs = v :: r := by cases vs with | nil => exact absurd h.1 (by simp) | cons x y => exact ⟨x, y, rfl⟩
    simp only [List.length_cons] at hle
    have hs : SRel ρ n s v := h.2 0 s v rfl rfl
    have ht : LRel ρ n l vs := ⟨by simpa using h.1, fun i s' v' a b => h.2 (i + 1) s' v' (by simpa using a) (by simpa using b)⟩
    have hc' : LRel ρ n (c.set (off + k) s) (acc.setIfInBounds (off + k) v).toList := by
      refine ⟨by simp [hc.1], fun i s' v' a b => ?_⟩
      rw [List.getElem?_set] at a
      rw [Array.getElem?_toList, Array.getElem?_setIfInBounds] at b
      have hsz : acc.size = c.length := by rw [hc.1]; simp
      by_cases e : off + k = i
      · subst e
        rw [if_pos rfl, if_pos (by omega)] at a
        rw [if_pos rfl, if_pos (by omega)] at b
        cases a; cases b
        exact hs
      · rw [if_neg e] at a b
        exact hc.2 i s' v' a (by rw [Array.getElem?_toList]; exact b)
    have ih := setA_rel l vs off (k + 1) (c.set (off + k) s) (acc.setIfInBounds (off + k) v) ht hc' (by simp; omega)
    simp only [setL, List.zipIdx_cons, List.foldl_cons]
    rw [show off + k + 1 = off + (k + 1) by omega]
    exact ih

theorem fill_rel {ρ : Nat → Loc} {n : Nat} {place : Nat → Option (Nat × Nat)} : ∀ (ps : List (Nat × List Sc)) (vs : List (Nat × Value)) (c r : List Sc) (acc : Array Value), LRel ρ n c acc.toList →
    ps.length = vs.length → (∀ (i : Nat) (p : Nat × List Sc) (v : Nat × Value), ps[i]? = some p → vs[i]? = some v → p.1 = v.1 ∧ LRel ρ n p.2 v.2.cells.toList) → fillA place c ps = some r →
    ∃ out, Instr.fill place acc vs = some out ∧ LRel ρ n r out.toList
  | [], vs, c, r, acc, hc, hlen, _, h => by
    have : vs = [] := by cases vs with | nil => rfl | cons x y => exact absurd hlen (by simp)
    subst this
    cases h
    exact ⟨acc, rfl, hc⟩
  | (i, l) :: ps, vs, c, r, acc, hc, hlen, hp, h => by
    obtain ⟨⟨j, v⟩, vs, rfl⟩ : ∃ v r, vs = v :: r := by cases vs with | nil => exact absurd hlen (by simp) | cons x y => exact ⟨x, y, rfl⟩
    obtain ⟨e1, e2⟩ := hp 0 (i, l) (j, v) rfl rfl
    simp only at e1 e2
    subst e1
    simp only [fillA] at h
    split at h
    · cases h
    · rename_i off size hpl
      split at h
      · cases h
      · rename_i hcond
        simp only [ne_eq, Bool.or_eq_true, decide_eq_true_eq, not_or, Decidable.not_not, Nat.not_lt] at hcond
        obtain ⟨hc1, hc2⟩ := hcond
        have hsz : acc.size = c.length := by rw [hc.1]; simp
        have hvs : v.cells.size = l.length := by rw [e2.1]; simp
        have hstep := setA_rel l v.cells.toList off 0 c acc e2 hc (by omega)
        obtain ⟨out, ho, hrel⟩ := fill_rel ps vs (setL c off l) r ((v.cells.toList.zipIdx 0).foldl (fun a (p : Value × Nat) => a.setIfInBounds (off + p.2) p.1) acc) hstep (by simpa using hlen)
          (fun k p v' a b => hp (k + 1) p v' (by simpa using a) (by simpa using b)) h
        refine ⟨out, ?_, hrel⟩
        simp only [Instr.fill, hpl]
        rw [if_neg (by simp only [ne_eq, Bool.or_eq_true, decide_eq_true_eq, not_or, Decidable.not_not, Nat.not_lt]; omega)]
        rw [← ho]
        congr 1
        rw [← Array.foldl_toList, Array.toList_zipIdx]

theorem places_run : ∀ (fs : List Field), fs.all (fun fd => (tsize P fd.type).isSome) = true →
    (fs.mapM (fun f : Field => (do pure (f.offset, ← sizeOf f.type) : Sem (Nat × Nat)))).run P w = .ok (fs.map fun f => (f.offset, (tsize P f.type).getD 0)) w
  | [], _ => rfl
  | f :: fs, h => by
    simp only [List.all_cons, Bool.and_eq_true] at h
    obtain ⟨k, hk⟩ := Option.isSome_iff_exists.1 h.1
    have ih := places_run fs h.2
    rw [List.mapM_cons]
    simp only [Sem.run_bind, tsize_run hk, Result.andThen_ok, Sem.run_pure, ih, List.map_cons, hk, Option.getD_some]

theorem partsE_rel {f : Fr} {n : Nat} (hf : FRel ρ n f a.tmps) : ∀ (ps : List (Nat × Operand)) (r : List (Nat × List Sc)), partsE f ps = some r →
    r.length = ps.length ∧ ∀ (i : Nat) (p : Nat × List Sc) (v : Nat × Value), r[i]? = some p → (ps.map fun (i, x) => (i, a.eval x))[i]? = some v → p.1 = v.1 ∧ LRel ρ n p.2 v.2.cells.toList
  | [], r, h => by cases h; exact ⟨rfl, fun i p v h => by simp at h⟩
  | (j, x) :: ps, r, h => by
    simp only [partsE] at h
    split at h
    · rename_i l r' hl hr
      cases h
      obtain ⟨h1, h2⟩ := partsE_rel hf ps r' hr
      refine ⟨by simp [h1], fun i p v hp hv => ?_⟩
      cases i with
      | zero =>
        simp at hp hv
        subst hp; subst hv
        exact ⟨rfl, cells?_rel (opd_rel hf x) hl⟩
      | succ i => exact h2 i p v (by simpa using hp) (by simpa using hv)
    · cases h

theorem tzero_cells {t : TypeId} {z : List Sc} (h : (tzero P t).bind (·.cells?) = some z) (n : Nat) : ∃ v, (zeroValue t).run P w = .ok v w ∧ LRel ρ n z v.cells.toList := by
  obtain ⟨zv, hz, hl⟩ := Option.bind_eq_some_iff.1 h
  obtain ⟨v, hv, rfl, _⟩ := tzero_run (w := w) hz
  exact ⟨v, hv, cells?_rel (AV.ofConst_rel ρ n v) hl⟩

theorem build_sound {f : Fr} {t : TypeId} {parts : Array (Nat × Operand)} {v : AV} {σ' : St} (hf : FRel ρ σ.length f a.tmps) (hop : o.op = .build t parts) (h : (opE P o f σ).run = some (v, σ')) :
    σ' = σ ∧ ∃ val, (Instr.build t (parts.map fun (i, x) => (i, a.eval x))).run P w = .ok val w ∧ ARel ρ σ.length v val := by
  unfold opE at h
  rw [hop] at h
  simp only at h
  split at h
  · rename_i fields z ps hu hz hps
    split at h
    · cases h
    · rename_i hall
      obtain ⟨l, h1, h⟩ := bind_some h
      cases h
      obtain ⟨zv, hzv, hzr⟩ := tzero_cells (P := P) (ρ := ρ) (w := w) hz σ.length
      obtain ⟨hl1, hl2⟩ := partsE_rel hf _ _ hps
      obtain ⟨out, ho, hr⟩ := fill_rel ps _ z l zv.cells hzr (by simp [hl1]) hl2 (get_some h1)
      refine ⟨rfl, .agg out, ?_, out, rfl, hr⟩
      have hall' : (fields.toList.all fun fd => (tsize P fd.type).isSome) = true := by simpa only [Bool.not_eq_true', Bool.not_eq_false] using hall
      have hm := places_run (P := P) (w := w) fields.toList hall'
      have hp : (fields.mapM (fun f : Field => (do pure (f.offset, ← sizeOf f.type) : Sem (Nat × Nat)))).run P w = .ok (fields.map fun f => (f.offset, (tsize P f.type).getD 0)) w := by
        rw [Array.mapM_eq_mapM_toList]
        simp only [Sem.run_map, hm, Result.andThen_ok]
        rw [← Array.toList_map, Array.toArray_toList]
      have hplace : (fun (i : Nat) => (fields.map fun f => (f.offset, (tsize P f.type).getD 0))[i]?) = fun (i : Nat) => (fields[i]?).bind fun (fd : Field) => (tsize P fd.type).map fun n => (fd.offset, n) := by
        funext i
        rw [Array.getElem?_map]
        cases hi : fields[i]? with
        | none => rfl
        | some fd =>
          have : fd ∈ fields.toList := by
            rw [← Array.getElem?_toList] at hi
            exact List.mem_of_getElem? hi
          have := List.all_eq_true.1 hall' fd this
          obtain ⟨k, hk⟩ := Option.isSome_iff_exists.1 this
          simp [hk]
      simp only [Instr.build, Sem.run_bind, hzv, Result.andThen_ok, run_underlying hu, hp, hplace, Array.toList_map, ho, Sem.run_pure]
  · rename_i k e z ps hu hz hps
    obtain ⟨l, h1, h⟩ := bind_some h
    cases h
    obtain ⟨n, hn, hfill⟩ := Option.bind_eq_some_iff.1 (get_some h1)
    obtain ⟨zv, hzv, hzr⟩ := tzero_cells (P := P) (ρ := ρ) (w := w) hz σ.length
    obtain ⟨hl1, hl2⟩ := partsE_rel hf _ _ hps
    obtain ⟨out, ho, hr⟩ := fill_rel ps _ z l zv.cells hzr (by simp [hl1]) hl2 hfill
    refine ⟨rfl, .agg out, ?_, out, rfl, hr⟩
    simp only [Instr.build, Sem.run_bind, hzv, Result.andThen_ok, run_underlying hu, tsize_run hn, Array.toList_map, ho, Sem.run_pure]
  · cases h

theorem zeros_rel {n : Nat} {z : List Sc} {zv : Array Value} (h : LRel ρ n z zv.toList) (m : Nat) (hz : 0 < z.length) : LRel ρ n (zerosA z m) ((Array.range m).map fun i => zv[i % zv.size]!).toList := by
  have hsz : zv.size = z.length := by rw [h.1]; simp
  refine ⟨by simp [zerosA], fun i s v a b => ?_⟩
  simp only [zerosA, List.getElem?_map] at a
  simp only [Array.toList_map, Array.toList_range, List.getElem?_map] at b
  cases hr : (List.range m)[i]? with
  | none => rw [hr] at a; cases a
  | some j =>
    rw [hr] at a b
    simp only [Option.map_some, Option.some.injEq] at a b
    subst a; subst b
    have hlt : j % z.length < z.length := Nat.mod_lt _ hz
    refine h.2 (j % z.length) _ _ ?_ ?_
    · rw [List.getD_eq_getElem?_getD, List.getElem?_eq_getElem hlt]; rfl
    · rw [hsz, Array.getElem?_toList, Array.getElem?_eq_getElem (by omega), getElem!_pos zv (j % z.length) (by omega)]

theorem fillA_length : ∀ {place : Nat → Option (Nat × Nat)} (ps : List (Nat × List Sc)) (c r : List Sc), fillA place c ps = some r → r.length = c.length
  | _, [], c, r, h => by cases h; rfl
  | _, (i, l) :: ps, c, r, h => by
    simp only [fillA] at h
    split at h
    · cases h
    · split at h
      · cases h
      · rw [fillA_length ps _ r h, setL_length]

theorem buildSlice_sound {f : Fr} {t : TypeId} {len : Nat} {parts : Array (Nat × Operand)} {v : AV} {σ' : St} (hr : Rel ρ σ w) (hf : FRel ρ σ.length f a.tmps) (hop : o.op = .buildSlice t len parts) (h : (opE P o f σ).run = some (v, σ')) :
    ∃ ρ' w' val, (Instr.buildSlice t len (parts.map fun (i, x) => (i, a.eval x))).run P w = .ok val w' ∧ ARel ρ' σ'.length v val ∧ Rel ρ' σ' w' ∧ Ext ρ σ w ρ' σ' w' := by
  unfold opE at h
  rw [hop] at h
  simp only at h
  split at h
  · rename_i e hu
    split at h
    · rename_i n z ps hn hz hps
      split at h
      · cases h
      · rename_i hcond
        simp only [Bool.or_eq_true, decide_eq_true_eq, bne_iff_ne, ne_eq, not_or, Nat.not_lt, Decidable.not_not] at hcond
        obtain ⟨⟨hn0, hbig⟩, hzl⟩ := hcond
        obtain ⟨l, h1, h⟩ := bind_some h
        cases h
        obtain ⟨zv, hzv, hzr⟩ := tzero_cells (P := P) (ρ := ρ) (w := w) hz σ.length
        obtain ⟨hl1, hl2⟩ := partsE_rel hf _ _ hps
        have hz0 := zeros_rel hzr (len * n) (by omega)
        obtain ⟨out, ho, hrel⟩ := fill_rel ps _ _ l _ hz0 (by simp [hl1]) hl2 (get_some h1)
        have hll : l.length = len * n := by
          have := fillA_length _ _ _ (get_some h1)
          rw [this]; simp [zerosA]
        have hos : out.size = len * n := by rw [← hll, hrel.1]; simp
        obtain ⟨g1, g2⟩ := fresh_row (l := l) (cs := out) (e := e) (fr := (0, 0)) (w' := { w with heap := w.heap.push (.cells out e) }) n len hr
          (by rw [show l.length = out.toList.length by simp [hll, hos], List.take_of_length_le (Nat.le_refl _)]; exact hrel) rfl rfl rfl rfl (fun i _ => by omega) (by simp [hll]) (by omega)
        refine ⟨_, _, .slice (some ⟨w.heap.size, 0, none⟩) len len, ?_, ?_, g1, g2⟩
        · have hle : ¬ (len * n > 2 ^ 24) := by omega
          have hfill : Instr.fill (fun i => some (i * n, n)) ((Array.range (len * n)).map fun i => zv.cells[i % zv.cells.size]!) (parts.map fun (i, x) => (i, a.eval x)).toList = some out := by
            rw [Array.toList_map]; exact ho
          by_cases h0 : len * n = 0
          · have hl0 : len = 0 := by
              rcases Nat.mul_eq_zero.1 h0 with h | h
              · exact h
              · omega
            subst hl0
            have e0 : ((Array.range (0 * n)).map fun i => zv.cells[i % zv.cells.size]!) = #[] := by rw [Nat.zero_mul]; simp
            have e1 : ((Array.range (0 * n)).map fun i => (#[] : Array Value)[i % (#[] : Array Value).size]!) = #[] := by rw [Nat.zero_mul]; simp
            rw [e0] at hfill
            simp only [Instr.buildSlice, Sem.run_bind, run_underlying hu, Result.andThen_ok, tsize_run hn, if_neg hle, if_pos h0, Sem.run_pure, e1, hfill, newRow, run_newObj]
          · simp only [Instr.buildSlice, Sem.run_bind, run_underlying hu, Result.andThen_ok, tsize_run hn, if_neg hle, if_neg h0, hzv, Sem.run_pure, hfill, newRow, run_newObj]
        · rw [St.len_new]
          have hlb : len ≤ big := by
            have : len ≤ len * n := Nat.le_mul_of_pos_right _ (by omega)
            unfold big; omega
          refine ⟨0, len, rfl, rfl, hlb, by omega, .inr <| .inl ⟨⟨w.heap.size, 0, none⟩, len, rfl, by rw [setLoc_at], rfl, Nat.le_refl _, by rw [setLoc_at]; simp, fun _ => by rw [setLoc_at]; simp⟩⟩
    · cases h
  · cases h
end
end Go.SX
